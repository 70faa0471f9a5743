/-
  Parts of the proof: Fw38, Fw22, Fw23, Fw26, Fw27, Fw28, Fw34, Fw35, Fw37, Fw42, Fw45, Fw24, Fw29, Fw31, Fw32, Fw33, Fw48, Fw39, Fw49, Fw30: the framework (Fw), pure forms (Dn), plain laws (Pl, Th), calls of functions (Ok).
-/
import Derived.Laws.StructEq
import Derived.Test.YtnndjinceoekdaaGreatDoorBac08b3bb

set_option linter.all false
set_option maxHeartbeats 1000000
open _root_ renaming Nat->X,List->bm,Array->bU,Option->bv,rfl->bn,False->b6,and_true->b9,Unit->bt,Bool->bA,cond_true->bG,Int->Z,if_true->cf,cond_false->bP,dif_pos->aja,congrArg->b3,true_and->ajo,decide_eq_true->ah3
open Go renaming TypeId->bF,Oper->bR,Operand->bM,Exit->b5,World->bD,Program->b0,execOp->bL,resolve->aiG,ResultVar->ah8,undef->bW,IntKind->cu,Field->aio,sizeOf->aiM,zeroValue->aih,typeInfo->aiw,run_underlying->b8,newRow->aiH,builtin->aiW,MapEntry->cn,asIntOf->ai7,binOp->aid,eqGuard->aiV,getD_set_ne->alC
open Bool renaming true->bp,false->bq,true_and->ajX,and_true->akE,false_and->alo
open Option renaming some->Y,none->bo,isSome_none->alc,isSome_some->akt,bind->bB,bind_eq_some_iff->aje,map_eq_some_iff->amr
open Option.some renaming inj->aiL,injEq->ajd
open Go.jf.c5 renaming refl->cq,of_heap->alm
open Go.jf.aX renaming here->ajx,gw->ait
open Go.jf renaming kill->aij,run_getObj_map->ajz
open Go.Sem renaming run_bind->bY,run_pure->cw
open Go.Result renaming andThen_ok->b1,ok->amq
open Go.Oper renaming wp->aic,upon_value->amt
open List renaming mem_flatten->ajn,mem_of_getElem?->aig,flatten_cons->ajc,all_nil->alk,all_eq_true->ai5,replicate->bJ,any_eq_false->aln,map_congr_left->aii,map_id'->alp,length->aia,mem_singleton->ah4,drop_drop->ajM,range->bI,length_append->aiz,length_take->aib,length_drop->alu,map_toArray->akw,map_nil->ajb,getElem?_take->akm,getElem_mem->b7,getElem?_eq_getElem->bS,getElem?_eq_some_iff->aiF,getElem?_inj->aku,mem_append_left->amp,mem_append_right->akB,mem_of_find?_eq_some->alx,append_eq_nil_iff->ak7,filter_eq_self->ajq,filter->aj0,length_eq_zero_iff->alE
open Pure renaming pure->ai8
open Array renaming mapM_eq_mapM_toList->ala,replicate->alj,getD_eq_getD_getElem?->ali,map->akq,mem_append_right->aiI
open Go.Value.slice renaming injEq->ah7
open List.Perm renaming append_left->akD
open Nat renaming beq->bH,eq_of_beq_eq_true->aiK,blt->cb,ble->b2,lt_irrefl->ajY,mul_one->ajy,beq_refl->ajT,lor->alz,shiftRight_eq_div_pow->alA,testBit_or->ams,shiftLeft_eq->akG,testBit_two_pow->alB
open Go.jf.ak renaming ids->bT,oh->aiX,fo->aif
open BitVec renaming ofInt->cg
open Int renaming toNat_of_nonneg->amn
open Go.World renaming cell?->ai9,frozen?_setCells->alh,cell?_setCells_in->ajW,cell?_setCells_out->akA
open Go.jf.a7 renaming size->alq
open Go.jf.ah renaming size->aiq
open Go.jf.eZ renaming eval->aiO
open Go.jf.hj renaming alloc->aiP
open Go.Instr renaming box->akp,mapEntry->alv,mapUpdate->aiN,keyThatStays->ajs,sameBits->ald,entryStore->amo,sureAddr->ajp
open Go.jf.fr renaming alloc->alr
open Go.jf.iE renaming alloc->als
open Go.jf.aR renaming pure->aiY
open Go.Value renaming map->ajt,int->aie,nilFunc->ajf
open Go.MapEntry renaming mk->akj
open Go.Result.ok renaming injEq->alw
open Go.Op renaming equalIn->ai6,equal->ajN,maxDepth->ajO,eqFields->akF,operands->bV
open Go.jf.Yields renaming wp->ajZ
open Go.Addr renaming add_lit->aiU
open Go.Addr.mk renaming injEq->ain
open Go.jf.ih renaming op->ajA
open Go.Call renaming operands->aiD
open Go.Region renaming binds->aly,ready->alD,wanted->akC
noncomputable section
namespace Go.jf
variable{a m:X}{b:Type}{c r:bF}{d t:ak}{e:bm (X×aF)}{f w:ahY}{g:bm (X×bm aZ)}{h:bR}{i:aO}{j:bm aZ}{k Q:ah}{l:bm (X×ah)}{n N:bM}{o:b5->Act->bD->Prop}{p:b0}{s:bU (X×bM)}{u:aO->Prop}{v:bD}{x:X->ahS}{y:X->ahY}{z:b5->aO->Prop}{O:X->Prop}{P:aF}{R:ahS}{S:Value}{T:bm (X×ak)}{U:eC->X->Prop}{V:bM->ak}
section
def tq:bm ak->ahV->bv (X×bm aZ)
 |.ref id (c::b)::_,bp::_=>Y (id,c::b)
 |_::as,_::a=>tq as a
 |_,_=>bo
def qj (id:X) (a:ak):ak:=bif a.fo [id] then .dead else a
def mF (id:X):bm ak->ahV->bm ak
 |.ref _ (_::_)::as,bp::_=>.ref id []::as.map (qj id)
 |a::as,_::b=>qj id a::mF id as b
 |as,_=>as.map (qj id)
def kM {a:Type} (c:X->a) (d:X) (e:a):X->a:=λb=>if b=d then e else c b
theorem nP {d:X->b} {c:b}:kM d a c a=c:=by simp[kM]
theorem ld {c:X->b} {e:b} (d:a≠m):kM c m e a=c a:=by simp[kM,d]
section
variable {E:fB} {C:eX} {st:aO} {A:ahQ} {w w':bD} {I I':X->Prop} {rt:X->ahS} {fp:X->ahY}
theorem sV {id:X} (a:X):ar ((id,P)::del [id] e) a=if id=a then Y P else ar e a:=by
 rw[dh];split
 ·rfl
 rename_i b;rw[mW,ax (by grind)]
theorem cM.split (e:cM C st A w I rt fp) {id:X} (n:ar st.h id=Y P) {j:k.den} {z:ahY} (E:aR (bb I C.B) w k R j f) (v:(fp id).Perm (f++z)):cM C ⟨[],(id,⟨k,j⟩)::del [id] st.h⟩ A w I (kM rt id R) (kM fp id f):=by
 obtain⟨_,F,G⟩:=e.tree id P n;have r:∀c∈f,c∈fp id:=λc d=>v.mem_iff.2 (by grind);have l:∀a b,ar ((id,(⟨k,j⟩:aF))::del [id] st.h) a=Y b->(a=id/\b=⟨k,j⟩)\/(a≠id/\ar st.h a=Y b):=λa b q=>(by grind [aiL,sV]);refine{e with tree:=?_,dis:=?_,tmp:=λa=>.dead _}
 ·intro a b q;rcases l a b q with⟨rfl,rfl⟩|⟨g,i⟩
  ·grind [List.nodup_append,nP]
  rw[ld g,ld g];exact e.tree a b i
 intro x y b D t u m c d;rcases l x b t with⟨rfl,rfl⟩|⟨g,i⟩<;>rcases l y D u with⟨rfl,rfl⟩|⟨o,p⟩
 ·omega
 ·rw[nP] at d;rw[ld o];exact e.dis _ _ _ _ n p m c (r c d)
 ·rw[ld g] at d;rw[nP];exactλs=>e.dis _ _ _ _ i n m c d (r c s)
 rw[ld g] at d;rw[ld o];exact e.dis _ _ _ _ i p m c d
def cN.qj (l:cM C st A w I rt fp) {id:X} {q:aF} {i:ahS} {j:ahY} {a:ak} {f:Value} (k:cN (bb I C.B) w st.h rt fp a f):cN (bb I C.B) w ((id,q)::del [id] st.h) (kM rt id i) (kM fp id j) (qj id a) f:=by
 unfold jf.qj;cases o:a.fo [id] with
 |true=>exact .dead _
 |false=>
  refine k.s3 (λr g n=>⟨n,cq _ _⟩) (λd m p e=>?_);have c:d≠id:=λb=>Ke o d m (by simp[b]);refine⟨?_,ld c,ld c,(l.tree d p e).1,λg _=>cq _ _⟩;rw[sV,ax (λb=>c b.symm)];exact e
theorem SB (p:cM C st A w I rt fp) {id:X} (F:ar st.h id=Y P) {y:k.den} {u:Loc} {f:ahY} {r:aZ} (D:aX w P.1 bo (rt id) (r::j) k u R):∀{d:bm ak} {c:ahV} {a:ahS},iw (cN (bb I C.B) w st.h rt fp) d a->tq d c=Y (id,r::j)->iw (cN (bb I C.B) w ((id,⟨k,y⟩)::del [id] st.h) (kM rt id R) (kM fp id f)) (mF id d c) a:=by
 have G:∀{d:bm ak} {a:ahS},iw (cN (bb I C.B) w st.h rt fp) d a->iw (cN (bb I C.B) w ((id,⟨k,y⟩)::del [id] st.h) (kM rt id R) (kM fp id f)) (d.map (jf.qj id)) a:=by
  intro d
  induction d with
  |nil=>intro a b;cases a with|nil=>trivial|cons=>exact b.elim
  |cons e n o=>intro a b;cases a with|nil=>exact b.elim|cons H a=>exact⟨b.1.qj p,o b.2⟩
 intro d
 induction d with
 |nil=>intro c a _ b;cases c<;>cases b
 |cons e n o=>
  intro c a b i;cases a with
  |nil=>exact b.elim
  |cons H a=>
  cases c with
  |nil=>cases e<;>first|(cases i;done)|(rename_i m g;cases g<;>cases i)
  |cons l c=>
   by_cases z:∃m s g,e=.ref m (s::g)/\l=bp
   ·obtain⟨m,s,g,rfl,rfl⟩:=z;simp only[tq,eR,ij,hL] at i;obtain⟨rfl,rfl,rfl⟩:=i;have x:=b.1;cases x with|ref q E=>
    rw[F] at q;cases q;obtain⟨rfl,rfl,rfl⟩:=E.lB D;refine⟨.ref (t:=⟨_,y⟩) (loc:=bo) (by rw[sV,au bn]) ?_,G b.2⟩;rw[nP];exact ajx
   have aq:tq (e::n) (l::c)=tq n c:=by cases e<;>first|rfl|(rename_i m g;cases g<;>cases l<;>first|rfl|grind)
   have v:mF id (e::n) (l::c)=jf.qj id e::mF id n c:=by cases e<;>first|rfl|(rename_i m g;cases g<;>cases l<;>first|rfl|grind)
   rw[aq] at i;rw[v];exact⟨b.1.qj p,o b.2 i⟩
theorem ni.abg (J:cM C st A w I rt fp) {id:X} (z:ar st.h id=Y P) {x:k.den} (eq:eN P.1 P.2 j k x) {av:Loc} (co:aX w P.1 bo (rt id) j k av R):∃p u,aR (bb I C.B) w k R x p/\(fp id).Perm (p++u)/\∀{w':bD} {I':X->Prop} {s:ahY} {K:bm (X×bm aZ)} {D:bm (X×aF)} {N:X->ahS} {E:X->ahY} {O:k.den} {t:P.1.den},ni C ⟨[],(id,⟨k,x⟩)::del [id] st.h⟩ w w' I I' (kM rt id R) (kM fp id p) s K D N E->id∈s->ar D id=Y ⟨k,O⟩->(id,[])∈K->(∀m∈K,m.2=[])->fa P.1 P.2 j k O t->∃d0 d6,ni C st w w' I I' rt fp s ((id,j)::K) ((id,⟨P.1,t⟩)::D) d0 d6/\∀l,l≠id->d0 l=N l:=by
 obtain⟨f3,ds,f4⟩:=J.tree id P z;obtain⟨hw,gc,p,u,d7,d8,d9,G,gi,ek,el⟩:=zU j (loc:=bo) f3 (λ_ _ b=>by cases b) ds (λ_ _ b=>by cases b) (J.notM z) eq;obtain⟨_,rfl,rfl⟩:=co.lB d7;refine⟨p,u,d8,G,λ{w' I' s K D N E O t} f bs V q fl cs=>?_⟩;have hr:∀a∈p,a∈fp id:=λa c=>G.mem_iff.2 (by grind);have gs:=jR.1 (G.nodup_iff.1 ds);have M:∀a,(∃d∈s,∃e,ar ((id,(⟨k,x⟩:aF))::del [id] st.h) d=Y e/\a∈kM fp id p d)->∃d∈s,∃e,ar st.h d=Y e/\a∈fp d/\(d=id->a∈p):=by
  rintro a ⟨d,o,e,g,c⟩;by_cases m:d=id
  ·grind [nP]
  rw[sV,ax (λd5=>m d5.symm)] at g;grind [ld]
 have am:∀a∈u,a<w.heap.size/\¬∃d∈s,∃e,ar ((id,(⟨k,x⟩:aF))::del [id] st.h) d=Y e/\a∈kM fp id p d:=λa c=>by
  have L:a∈fp id:=G.mem_iff.2 (by grind);refine⟨(f4 a L).2.2.1,λb=>?_⟩;obtain⟨d,_,e,g,n,H⟩:=M a b;by_cases m:d=id
  ·grind
  exact J.dis d id e P g z m a n L
 have S:∀a∈u,w'.heap[a]?=w.heap[a]?:=λa c=>f.heap a (am a c).1 (λd o e g b=>(am a c).2 ⟨d,o,e,g,b⟩);have gl:∀F a,bb I C.B F a->c5 w w' a:=λF a U=>.of_heap (f.heap a (J.ib a (mX U)) (λd o e g b=>by
  obtain⟨d,_,e,g,n,_⟩:=M a ⟨d,o,e,g,b⟩;exact J.notM g a n F U))
 obtain⟨_,an,ic,f2⟩:=f.tree id _ V;obtain⟨v,hs,_,cv,_⟩:=f.keep _ q ⟨k,x⟩ (by rw[sV,au bn]);simp only[nP] at cv;rw[cv] at an;have d4:∀a,c5 w w' a->rT w w' av k.size a:=λa b=>⟨λr _=>(b.1 r).1,λr=>(b.1 r).2,λr=>by rw[(b.1 r).1],b.2⟩;obtain⟨ge,a3,fT,_,f1,_,c1,_,f0⟩:=ek w' (bb I' C.B) R O (E id) t (λF a c=>by cases F;exact f.i a c;exact c.imp (f.i a) (λb=>b)) (by
   rintro a (⟨F,U⟩|c|⟨c2,hc⟩)
   ·grind
   ·exact d4 a (.of_heap (S a c))
   grind) an (λ_ _=>rfl)
  (λa c2 fn=>by
   have c:a∈u:=(by grind);exact(d9 a c2 fn).1.sm (.of_heap (S a c))) cs
 obtain rfl:=f1 bn (.inr bn);have Q:∀a∈a3,a∈E id\/a∈u:=λa c=>hX.1 (c1.mem_iff.1 c);have gt:∀l e,ar D l=Y e->∀a∈E l,a∉u:=λl e q a c hi=>by
  rcases((f.tree l e q).2.2.2 a c).2.2 with b|b
  ·grind
  grind
 have ad:∀l v,ar ((id,(⟨P.1,t⟩:aF))::D) l=Y v->(l=id/\v=⟨P.1,t⟩)\/(l≠id/\ar D l=Y v):=λl v q=>(by rw[dh] at q;grind);have ci:∀a,(w.heap.size<=a\/∃d∈s,∃e,ar ((id,(⟨k,x⟩:aF))::del [id] st.h) d=Y e/\a∈kM fp id p d)->w.heap.size<=a\/∃d∈s,∃e,ar st.h d=Y e/\a∈fp d:=λa b=>b.imp (λb=>b) (λb=>by
  obtain⟨d,o,e,g,n,_⟩:=M a b;grind)
 refine⟨kM N id (rt id),kM E id a3,⟨f.size,f.os,f.tape,f.output,?_,f.evo,f.i,?_,?_,?_,?_,?_⟩,λl q=>ld q⟩
 ·intro a c go;refine f.heap a c (λd o e g b=>?_);obtain⟨d,o,e,g,n,_⟩:=M a ⟨d,o,e,g,b⟩;grind
 ·intro a c;exact(f.i2 a c).imp (λb=>b) (λb=>⟨b.1,ci a b.2⟩)
 ·intro l v q;rcases ad l v q with⟨rfl,rfl⟩|⟨n,H⟩
  ·rw[nP,nP];refine⟨.inl bs,fT,?_,λa c=>?_⟩
   ·grind
   rcases Q a c with c|c
   ·obtain⟨d1,d2,d3⟩:=f2 a c;grind
   have L:a∈fp l:=G.mem_iff.2 (by grind);refine⟨λo=>?_,i6 (am a c).1 f.size,.inr ⟨l,bs,P,z,L⟩⟩;rcases f.i2 a o with b|⟨_,b|b⟩
   ·grind
   ·grind
   grind
  rw[ld n,ld n];obtain⟨f5,d1,d2,d3⟩:=f.tree l v H;refine⟨f5.imp (λb=>b) (λb=>?_),d1,d2,λa c=>?_⟩
  ·have b:ar ((id,(⟨k,x⟩:aF))::del [id] st.h) l=bo:=b;rw[sV,ax (λm=>n m.symm)] at b;exact b
  obtain⟨v1,fw,ap⟩:=d3 a c;exact⟨v1,fw,ci a ap⟩
 ·intro d r f6 f7 o ex T a c;rcases ad d f6 o with⟨rfl,rfl⟩|⟨n,H⟩<;>rcases ad r f7 ex with⟨rfl,rfl⟩|⟨a4,bl⟩
  ·omega
  ·rw[nP] at c;rw[ld a4];rcases Q a c with c|c
   ·exact f.dis d r _ _ V bl T a c
   grind
  ·rw[ld n] at c;rw[nP];intro b;rcases Q a b with b|b
   ·exact f.dis d r _ _ H V T a c b
   grind
  rw[ld n] at c;rw[ld a4];exact f.dis d r _ _ H bl T a c
 ·intro m y e g;rcases fV.1 y with rfl|y
  ·rw[z] at g;cases g;exact⟨⟨P.1,t⟩,by rw[dh,au bn],bn,nP,⟨_,co.ty⟩,f0⟩
  by_cases aq:m.1=id
  ·rw[aq,z] at g;cases g;refine⟨⟨P.1,t⟩,by rw[dh,au aq.symm],bn,by grind [nP],⟨P.1,by rw[fl m y];cases P.1<;>rfl⟩,λdl _ _ _ q=>?_⟩;grind [D9]
  obtain⟨v1,fw,ap,v4,f8,Kg⟩:=f.keep m y e (by rw[sV,ax (λb=>aq b.symm)];omega);rw[ld aq] at v4 Kg;exact⟨v1,by rw[dh,ax (λb=>aq b.symm)];exact fw,ap,by grind [ld],f8,Kg⟩
 intro m y e g dl io ii hv f9 gf bx ft fs ce fz;rcases fV.1 y with rfl|y
 ·rw[z] at g;cases g;refine⟨⟨P.1,t⟩,by rw[dh,au bn],uL bx cs ce,λa0 em=>?_⟩;obtain⟨aw,an⟩:=el dl _ _ _ _ _ bx (by exact ft) ce fs fz a0 em;rw[nP];exact⟨c1.mem_iff.2 (lq _ aw),.of_heap (S a0 aw)⟩
 grind [uK]
theorem eZ.sub {v:bR} {t:bm ak} {i S:bU _} (dl:v.op=.call {callee:=.value n,args:=i,argTypes:=S}) (d8:aT st.g n=.eA m t) (ce:v.dst=Y a) (ci:C.ok a) (fz:∀(R:ahQ) (w:bD),(callFunc m R).run E.P w=.ok (.enter m R) w) {b:bm hE} {e:bm aF} (bs:rS E m b e) (d3:pd 0 b=bo) (am:∀F,C.I0 F\/C.B F->F<C.w0.heap.size/\¬C.F0 F) (an:lm E C.I0 C.w0) {id:X} {j:aF} (s:ar st.h id=Y j) {A:aZ} {p:bm aZ} {D:k.den} (O:eN j.1 j.2 (A::p) k D) {J:ahV} (d4:tq (i.toList.map (aT st.g)++t) J=Y (id,A::p)) {c:bm ak} (a4:c=mF id (i.toList.map (aT st.g)++t) J) (a3:oG ((id,⟨k,D⟩)::del [id] st.h) (gu c b) c b) (G:nu a ⟨[],(id,⟨k,D⟩)::del [id] st.h⟩ c b e=bp) (a0:id∈gu c b) (ap:id∈my c b) {y':k.den} {z:j.1.den} (cs:ar (j4 c b++iU a (iR e) 0 e) id=Y ⟨k,y'⟩) (d2:fa j.1 j.2 (A::p) k y' z) (r:u ⟨(a,vt a e)::aij (gu c b) ((id,A::p)::xn (my c b)) st.g,((id,⟨j.1,z⟩)::(j4 c b++iU a (iR e) 0 e))++del (gu c b) st.h⟩):eZ E C v st u:=by
 rintro d w ⟨I,rt,fp,l⟩ next ex c2
 obtain⟨o,d7,ad⟩:∃o:ahQ,d.eval n=.func (.func m) #[] o/\iw (cN (bb I C.B) w st.h rt fp) t o.toList:=by
  have H:=l.aT n;rw[d8] at H;generalize f2:d.eval n=f8 at H;cases H with|eA f0 fT=>
  grind [yB]
 have bl:iw (cN (bb I C.B) w st.h rt fp) (i.toList.map (aT st.g)++t) (i.toList.map d.eval++o.toList):=Ga (Gb (λn=>l.aT n) _) ad;obtain⟨ek,el,f4⟩:=l.tree id j s;obtain⟨eq,fl,_,_,K,_⟩:=DQ (A::p) (loc:=bo) ek (λ_ _ r=>by cases r) el (λ_ _ r=>by cases r) (l.notM s) O;obtain⟨U,f5,aw,d9,ds⟩:=ni.abg l s O K;have M:=l.split s aw d9;have N:=SB (y:=D) (f:=U) l s K bl d4;rw[<-a4] at N;have bx:=M.call N bs a3 G (λ_ _=>by rw[d3];trivial) (M.glob am an);have d1:(bL d.eval v).run E.P w=.ok (.enter m (i.toList.map d.eval++o.toList).toArray) w:=(by have aq:i.map d.eval=(i.toList.map d.eval).toArray:=(by rw[<-Array.toList_map]);have T:(i.toList.map d.eval++o.toList).toArray=(i.toList.map d.eval).toArray++o:=ac;rw[T];simp only[bL,dl,aiG,aq,bY,d7,Deferred.ofValue,cw,b1,invoke,Array.empty_append,Array.append_empty];grind);unfold aic;rw[d1];show Calls E.P m _ w _;refine bx.mono ?_;rintro q w' ⟨I',f6,fn,em,rfl,d5,d0⟩;show next (d.put v.dst (qd em)) w'
 rw[ce];obtain⟨f7,fs,d6,f1⟩:=ds d5 a0 cs (eY.2 ⟨id,ap,bn⟩) (λq co=>by obtain⟨f3,_,rfl⟩:=eY.1 co;rfl) d2;simp only[nu,cC,gY] at G;have cv:=jq.ok G.1.2;refine c2 _ _ _ r bn ⟨I',_,_,(l.eB d6).put ci (av:=vt a e) (d0 _ _ _ (λx Q=>?_))⟩;have V:=P2 cv x Q;have L:=G.2 x Q;have c1:x.1≠id:=λq=>(by rw[q,sV,au bn] at L;cases L);have ft:ar ((id,(⟨j.1,z⟩:aF))::(j4 c b++iU a (iR e) 0 e)) x.1=Y x.2:=(by rw[dh,ax (λq=>c1 q.symm)];exact V);grind [kC,fi]
end
end
section
def jE:X->bm hE->bm (X×ak)
 |_,[]=>[]
 |k,.v b::a=>(k,.val b.1 b.2)::jE (k+1) a
 |k,.m _ _::a=>(k,.ref k [])::jE (k+1) a
 |k,.o _::a=>(k,.ref k [])::jE (k+1) a
 |k,.n::a=>(k,.dg (.slice bo 0 0))::jE (k+1) a
 |k,.w _ _ e d _::a=>(k,.view k [] e d)::jE (k+1) a
 |k,.s _ _::a=>jE (k+1) a
 |k,.c f g::a=>(k,.eA f (g.map λb=>.val b.1 b.2))::jE (k+1) a
def j8:X->bm hE->bm (X×aF)
 |_,[]=>[]
 |k,.v _::a=>j8 (k+1) a
 |k,.m b _::a=>(k,b)::j8 (k+1) a
 |k,.o b::a=>(k,b)::j8 (k+1) a
 |k,.w e d _ _ _::a=>(k,⟨.osl e,d⟩)::j8 (k+1) a
 |k,.c _ _::a=>j8 (k+1) a
 |k,.n::a=>j8 (k+1) a
 |k,.s _ _::a=>j8 (k+1) a
def hP:X->bm hE->ahY
 |_,[]=>[]
 |k,.m _ _::a=>k::hP (k+1) a
 |k,.w _ _ _ _ _::a=>k::hP (k+1) a
 |k,_::a=>hP (k+1) a
def tU (a:eX):bv ec->Prop
 |none=>True
 |some (c,g,d)=>c∈a.pin/\(∀h∈d,h∈a.pin)/\∃b e f,a.vs c=.pointer (Y ⟨b,e,bo⟩)/\b<a.w0.heap.size/\¬a.F0 b/\a.w0.cell? ⟨b,e,bo⟩=Y (.func (.func g) #[] f)/\f.toList=d.map a.vs
def nO:bv ec->ahY
 |none=>[]
 |some (a,_,b)=>a::b
def r6 (j:b0) (e:aO) (a:aF):ah8->ahY->Prop
 |.tmp m,c=>match gt e.g m with
  |.val i n=>(⟨i,n⟩:aF)=a/\c=[]
  |.dg f=>iK a.1 f.cells.toList=Y a.2/\cX a.1 f.cells.toList=f/\c=[]
  |.ref id d=>c=[id]/\∃b,ar e.h id=Y b/\eN b.1 b.2 d a.1 a.2
  |_=>b6
 |.cell l k,c=>fj j a.1 k/\match gt e.g l with
  |.ref id d=>c=[id]/\∃b i,ar e.h id=Y b/\fm b.1 d=Y (.optr i)/\eN b.1 b.2 (d++[.deref]) a.1 a.2
  |_=>b6
def tT (b:b0) (d:aO):bm ah8->bm aF->ahY->Prop
 |[],[],a=>a=[]
 |r::f,e::g,a=>e.1.fZ=bp/\∃i1 c,a=i1++c/\r6 b d e r i1/\tT b d f g c
 |_,_,_=>b6
def pD (a:aO):X->bm hE->Prop
 |_,[]=>True
 |k,.m c l::b=>(gt a.g k=.ref k []/\ar a.h k=Y ⟨c.1,l⟩/\c.1.fZ=bp/\rO c.1=bp)/\pD a (k+1) b
 |k,.w i j e d f::b=>(gt a.g k=.view k [] e d/\ar a.h k=Y ⟨.osl i,f⟩/\(i.fZ=bp/\e<d)/\f.length=j.length)/\pD a (k+1) b
 |k,_::b=>pD a (k+1) b
def Ky (e:b0) (a:bm hE) (g:bm ah8) (f:bm aF) (b:b5) (d:aO):Prop:=
 (b=.normal\/b=.ret)/\∃c,tT e d g f c/\jq (hP 0 a++c)=bp/\pD d 0 a
section
variable {E:fB}
theorem Tr {h:X->Prop} {b:bm aF} (g:iw (yb h O v) b R):cN (bb h O) v e x y (.eA a (b.map λc=>.val c.1 c.2)) (.func (.func a) #[] R.toArray):=by
 have q:=KZ g;refine .eA (by grind) (λf o j d i=>?_);have k:∀{b:bm aF} {R:ahS} {f:X} {c:aF} {j:Value},iw (yb h O v) b R->b[f]?=Y c->R[f]?=Y j->yb h O v c j:=by
  intro b
  induction b with
  |nil=>grind
  |cons s b n=>
   intro R f c j g d i;cases R with
   |nil=>grind
   |cons r R=>
    cases f with
    |zero=>simp only[qy,eR] at d i;subst d i;exact g.1
    |succ f=>exact n g.2 (by simpa using d) (by grind)
 rw[jg] at d;obtain⟨c,m,rfl⟩:=fD.1 d;obtain⟨p,rfl,l⟩:=k g m (by simpa using i);exact .val l
theorem Lf {q p:X->Prop} {w:bD}:∀{k:X} {d:bm hE} {D:ahS} {x:ev},mm (x8 q p w) d D x->∃(h:X->ahS) (e:X->ahY),(∀id b,ar (j8 k d) id=Y b->k<=id/\(∃u,x[id-k]?=Y u/\e id=u)/\aR (bb q p) w b.1 (h id) b.2 (e id))/\(∀a,gt (jE k d) (k+a)=.dead\/∃v,D[a]?=Y v/\cN (bb q p) w (j8 k d) h e (gt (jE k d) (k+a)) v)/\(∀a,a<k->gt (jE k d) a=.dead)
 |k,[],D,x,t=>⟨λ_=>[],λ_=>[],(λid b t=>by cases t),λa=>.inl bn,λa _=>rfl⟩
 |k,j::d,[],x,t=>t.elim
 |k,j::d,v::D,[],t=>t.elim
 |k,j::d,v::D,u::x,t=>by
  obtain⟨A,T⟩:=t;obtain⟨h,e,i1,H,Q⟩:=Lf (k:=k+1) T;have I:∀id b,ar (j8 (k+1) d) id=Y b->k<=id/\(∃E,(u::x)[id-k]?=Y E/\e id=E)/\aR (bb q p) w b.1 (h id) b.2 (e id):=λid b P=>(by grind);have M:∀(b:aF) (r:ahS) (J:ak),(∀(z:bm (X×aF)) (C:X->ahS) (F:X->ahY),ar z k=Y b->C k=r->cN (bb q p) w z C F J v)->aR (bb q p) w b.1 r b.2 u->j8 k (j::d)=(k,b)::j8 (k+1) d->jE k (j::d)=(k,J)::jE (k+1) d->_:=λb r J f l aq O=>by
   refine(⟨λG=>if G=k then r else h G,λG=>if G=k then u else e G,?_,?_,?_⟩:∃(h:X->ahS) (e:X->ahY),(∀id b,ar (j8 k (j::d)) id=Y b->k<=id/\(∃E,(u::x)[id-k]?=Y E/\e id=E)/\aR (bb q p) w b.1 (h id) b.2 (e id))/\(∀a,gt (jE k (j::d)) (k+a)=.dead\/∃i,(v::D)[a]?=Y i/\cN (bb q p) w (j8 k (j::d)) h e (gt (jE k (j::d)) (k+a)) i)/\(∀a,a<k->gt (jE k (j::d)) a=.dead))
   ·grind [dh]
   ·intro a;rw[O,iQ];cases a with
    |zero=>
     right;refine⟨v,bn,?_⟩;rw[au aa];exact f _ _ _ (by rw[aq,dh,au bn]) (by grind)
    |succ a=>
     rw[ax aa,(aa:k+(a+1)=k+1+a)];refine(H a).imp id ?_;rintro⟨i,aw,g⟩;refine⟨i,by grind,?_⟩;refine g.s3 (λm K U=>⟨U,cq w K⟩) (λid _ am P=>?_);obtain⟨bl,_,bs⟩:=i1 id am P;have an:¬id=k:=aa;have ap:¬k=id:=aa;simp_all [dh,ax,cq]
   intro a y;rw[O,iQ,ax aa];grind
  cases j with
  |v b=>
   obtain⟨rfl,r,f,l⟩:=A;refine⟨h,e,I,λa=>?_,λa y=>?_⟩
   ·show gt ((k,_)::_) _=_\/_;rw[iQ];cases a with
    |zero=>
     right;refine⟨v,bn,?_⟩;show cN _ _ _ _ _ (gt ((k,_)::_) _) _;rw[iQ,au aa,f];exact .val l
    |succ a=>
     rw[ax aa,(aa:k+(a+1)=k+1+a)];refine(H a).imp id ?_;rintro⟨i,aw,g⟩;refine⟨i,by grind,?_⟩;show cN _ _ _ _ _ (gt ((k,_)::_) _) _;rw[iQ,ax aa];exact g
   show gt ((k,_)::_) _=_;rw[iQ,ax aa];grind
  |n=>
   obtain⟨rfl,f⟩:=A;refine⟨h,e,I,λa=>?_,λa y=>?_⟩
   ·show gt ((k,_)::_) _=_\/_;rw[iQ];cases a with
    |zero=>
     right;refine⟨v,bn,?_⟩;show cN _ _ _ _ _ (gt ((k,_)::_) _) _;rw[iQ,au aa,f];exact .dg _
    |succ a=>
     rw[ax aa,(aa:k+(a+1)=k+1+a)];refine(H a).imp id ?_;rintro⟨i,aw,g⟩;refine⟨i,by grind,?_⟩;show cN _ _ _ _ _ (gt ((k,_)::_) _) _;rw[iQ,ax aa];exact g
   show gt ((k,_)::_) _=_;rw[iQ,ax aa];grind
  |s av a3=>
   refine⟨h,e,I,λa=>?_,λa y=>Q a aa⟩;cases a with
   |zero=>exact .inl (Q k aa)
   |succ a=>
    have y:=H a;rw[(aa:k+1+a=k+(a+1))] at y;refine y.imp id ?_;rintro⟨i,aw,g⟩;exact⟨i,by grind,g⟩
  |c n bx=>
   obtain⟨rfl,ce,f,l⟩:=A;refine⟨h,e,I,λa=>?_,λa y=>?_⟩
   ·show gt ((k,_)::_) _=_\/_;rw[iQ];cases a with
    |zero=>
     right;refine⟨v,bn,?_⟩;show cN _ _ _ _ _ (gt ((k,_)::_) _) _;rw[iQ,au aa,f];exact Tr l
    |succ a=>
     rw[ax aa,(aa:k+(a+1)=k+1+a)];refine(H a).imp id ?_;rintro⟨i,aw,g⟩;refine⟨i,by grind,?_⟩;show cN _ _ _ _ _ (gt ((k,_)::_) _) _;rw[iQ,ax aa];exact g
   show gt ((k,_)::_) _=_;rw[iQ,ax aa];grind
  |m b ci=>obtain⟨r,f,l⟩:=A;exact M b r (.ref k []) (λz C F aw g=>by subst f;exact .ref (loc:=bo) aw (by grind [ajx])) l bn rfl
  |o b=>obtain⟨r,f,l⟩:=A;exact M b r (.ref k []) (λz C F aw g=>by subst f;exact .ref (loc:=bo) aw (by grind [ajx])) l bn rfl
  |w S R B L co=>
   obtain⟨K,o,N,f,⟨a4,V,ad⟩,l⟩:=A;refine M ⟨.osl S,R⟩ _ (.view k [] B L) (λz C F aw g=>?_) l bn rfl;have a0:cN (bb q p) w z C F (.view k [] B L) (.slice (Y ⟨K,if N=B then o else o+B*S.size,bo⟩) (L-B) (N-B)):=.view (loc:=bo) (len:=R.length) aw (by grind [ajx]) aa V ad;grind
theorem XD {a:ev} (g:a.flatten.Nodup):(∀(c:X) b,a[c]?=Y b->b.Nodup)/\∀(c e:X) b d,a[c]?=Y b->a[e]?=Y d->c≠e->∀f∈b,f∉d:=by
 induction a with
 |nil=>grind
 |cons i a h=>
  simp only[lW,jR] at g;grind [List.getElem?_cons_zero,ajd,ajn,aig]
def AQ (b:ahQ):ah8->Sem Value
 |.tmp a=>ai8 (b.getD a bW)
 |.cell c a=>do loadVar a (<-asAddr (b.getD c bW))
def acE {f:Func} {e:bm ah8} (h:f.results=e.toArray) (c:ahQ) (a:bD) (i:(e.mapM (AQ c)).run p a=.ok R a):(results f c).run p a=.ok (qd R) a:=by
 unfold results;simp only[bY,h];rw[ala,Sem.run_map];have j:∀b:ah8->Sem Value,(∀d,b d=AQ c d)->(e.mapM b).run p a=.ok R a:=λb g=>(by rw[show b=AQ c from funext g];exact i);rw[j _ (λd=>by cases d<;>rfl)];simp only[b1,cw];congr 1
 match R with
 |[]=>rfl
 |[r]=>rfl
 |r::l::k=>simp[qd]
theorem r6.rep {H:eX} {d:ahQ} {C:X->ahY} (q:cM H i d v O x C) (D:P.1.fZ=bp) {c:ah8} (a:r6 p i P c f):∃o I,(AQ d c).run p v=.ok o v/\Bn O v P o I/\(∃ap,(f.map C).flatten.Perm (I++ap))/\∀id∈f,∃P,ar i.h id=Y P:=by
 have K:∀(id:X) (g:aF) (l:bm aZ),ar i.h id=Y g->eN g.1 g.2 l P.1 P.2->∃u m k n,aX v g.1 bo (x id) l P.1 u m/\aR (bb O H.B) v P.1 m P.2 k/\pC v u m P.1.size/\(C id).Perm (k++n):=(by intro id g l e r;obtain⟨aw,G,bl⟩:=q.tree id _ e;obtain⟨u,m,k,n,w,z,F,J,_⟩:=DQ l (τ':=P.1) (y:=P.2) aw (loc:=bo) (λ_ _ a=>by cases a) G (λ_ _ a=>by cases a) (q.notM e) r;grind);cases c with
 |tmp c=>
  have b:=q.tmp c;simp only[r6] at a;split at a
  ·rename_i a0 bx j;rw[j] at b;obtain⟨rfl,rfl⟩:=a;generalize E:d.getD c bW=o at b;cases b with|val av=>
   exact⟨_,[],by show(ai8 (d.getD c bW):Sem Value).run p v=_;simp_all,⟨_,bn,av.fZ D⟩,⟨[],ac⟩,ac⟩
  ·rename_i o j;rw[j] at b;obtain⟨aw,G,rfl⟩:=a;generalize E:d.getD c bW=bs at b;cases b;exact⟨_,[],by show(ai8 (d.getD c bW):Sem Value).run p v=_;simp_all,⟨_,G.symm,pR aw⟩,⟨[],ac⟩,ac⟩
  ·rename_i id l j;rw[j] at b;obtain⟨rfl,g,e,r⟩:=a;generalize E:d.getD c bW=o at b;cases b with|ref t s=>
   rw[e] at t;cases t;obtain⟨u,m,k,n,w,z,F,J⟩:=K id g l e r;obtain⟨rfl,rfl,rfl⟩:=s.lB w;refine⟨_,k,by show(ai8 (d.getD c bW):Sem Value).run p v=_;simp_all,⟨_,bn,z.fZ D⟩,⟨n,by grind⟩,λam U=>?_⟩;grind
  grind
 |cell A L=>
  have b:=q.tmp A;simp only[r6] at a;obtain⟨a3,a⟩:=a;split at a
  ·rename_i id l j;rw[j] at b;obtain⟨rfl,g,a0,e,ad,r⟩:=a;generalize E:d.getD A bW=o at b;cases b with|ref t s=>
   rw[e] at t;cases t;have:=s.ty;rw[ad] at this;cases this;obtain⟨M,an,R,rfl,N,Q⟩:=pa (q.tree id _ e).1 s;have V:=s.append (aX.Hb N Q);obtain⟨u,m,k,n,w,z,F,J⟩:=K id g _ e r;obtain⟨aq,S,T⟩:=V.lB w;subst S;subst T;subst aq;have a4:=(F M an bn).1;refine⟨cX P.1 R,k,?_,⟨_,bn,z.fZ D⟩,⟨n,by grind⟩,λam U=>?_⟩
   ·show(do loadVar L (<-asAddr (d.getD A bW)):Sem Value).run p v=_;grind [JG,bY,cw,b1,cX,List.headD,asAddr]
   grind
  grind
theorem tT.rep {j:b0} {o:eX} {f:aO} {n:ahQ} {e w0:bD} {i:X->Prop} {z:X->ahS} {k:X->ahY} (l:cM o f n e i z k):∀{d:bm ah8} {m:bm aF} {a:ahY},tT j f d m a->∃vs c,(d.mapM (AQ n)).run j e=.ok vs e/\mm (Bn i e) m vs c/\(∃w,(a.map k).flatten.Perm (c.flatten++w))/\∀id∈a,∃g,ar f.h id=Y g
 |[],[],a,b=>by obtain rfl:a=[]:=b;exact⟨[],[],bn,trivial,⟨[],.refl _⟩,ac⟩
 |[],g::A,a,b=>b.elim
 |r::d,[],a,b=>b.elim
 |r::d,g::A,a,b=>by
  obtain⟨v,i1,K,rfl,t,u⟩:=b;obtain⟨B,s,C,p,⟨x,D⟩,E⟩:=t.rep l v;obtain⟨vs,c,F,q,⟨y,G⟩,H⟩:=tT.rep (w0:=w0) l u;refine⟨B::vs,s::c,?_,⟨p,q⟩,⟨x++y,?_⟩,λJ I=>?_⟩
  ·simp_all
  ·grind
  grind
theorem Lg:∀{k:X} {args:bm hE},∀b∈hP k args,k<=b
 |k,[],b,a=>by cases a
 |k,f::args,b,a=>by
  have d:=Lg (k:=k+1) (args:=args);cases f with
  |m e q=>
   rcases fV.1 a with rfl|a
   ·omega
   grind
  |w t p j h r=>
   rcases fV.1 a with rfl|a
   ·omega
   grind
  |v e=>have:=d b a;omega
  |o e=>have:=d b a;omega
  |c n l=>have:=d b a;omega
  |n=>have:=d b a;omega
  |s g i=>have:=d b a;omega
theorem pD.rep {Q:eX} {A:aO} {E:ahQ} {w:bD} {F:X->Prop} {L:X->ahS} {t:X->ahY} (u:cM Q A E w F L t) {B:X->Prop}:∀{k:X} {f:bm hE} {vs:ahS},pD A k f->vs.length=f.length->(∀e,e∈hP k f->∀v,vs[e-k]?=Y v->E.getD e bW=v)->∃b,mm (x9 F B w) f vs b/\b.flatten=((hP k f).map t).flatten/\∀id∈hP k f,k<=id/\∃r,ar A.h id=Y r
 |k,[],vs,g,C,x=>by cases vs with
  |nil=>exact⟨[],trivial,bn,by simp[hP]⟩
  |cons=>cases C
 |k,G::f,[],g,C,x=>by cases C
 |k,G::f,v::vs,g,C,x=>by
  have p:pD A (k+1) f->(∀e,e∈hP (k+1) f->e∈hP k (G::f))->∃b,mm (x9 F B w) f vs b/\b.flatten=((hP (k+1) f).map t).flatten/\∀id∈hP (k+1) f,k+1<=id/\∃r,ar A.h id=Y r:=λg T=>by
   have a4:=Lg (k:=k+1) (args:=f);exact pD.rep u g (by grind) (λe i am bs=>x e (T e i) am (by
    grind))
  cases G with
  |v r=>
   obtain⟨b,j,q,d⟩:=p g (λe i=>i);exact⟨[]::b,⟨bn,j⟩,by grind [hP],λid a=>⟨by have:=(d id a).1;omega,(d id a).2⟩⟩
  |o r=>
   obtain⟨b,j,q,d⟩:=p g (λe i=>i);exact⟨[]::b,⟨bn,j⟩,by grind [hP],λid a=>⟨by have:=(d id a).1;omega,(d id a).2⟩⟩
  |n=>
   obtain⟨b,j,q,d⟩:=p g (λe i=>i);exact⟨[]::b,⟨bn,j⟩,by grind [hP],λid a=>⟨by have:=(d id a).1;omega,(d id a).2⟩⟩
  |s a3 ce=>
   obtain⟨b,j,q,d⟩:=p g (λe i=>i);exact⟨[]::b,⟨bn,j⟩,by grind [hP],λid a=>⟨by have:=(d id a).1;omega,(d id a).2⟩⟩
  |c n dl=>
   obtain⟨b,j,q,d⟩:=p g (λe i=>i);exact⟨[]::b,⟨bn,j⟩,by grind [hP],λid a=>⟨by have:=(d id a).1;omega,(d id a).2⟩⟩
  |m r d0=>
   obtain⟨⟨J,z,K,U⟩,g⟩:=g;obtain⟨b,j,q,d⟩:=p g (λe i=>hY _ i);have l:=u.tmp k;rw[J] at l;have I:E.getD k bW=v:=x k (by simp[hP]) v ac;rw[I] at l;obtain⟨D,_⟩:=u.tree k _ z;refine⟨t k::b,⟨?_,j⟩,by grind [ajc,hP],λid a=>?_⟩
   ·cases l with|ref y H=>
    rw[z] at y;cases y;obtain⟨rfl,rfl,rfl⟩:=ait.1 H;exact⟨L k,bn,D.fZ K⟩
   rcases fV.1 a with rfl|a
   ·grind
   grind
  |w an ds ci bl d1=>
   obtain⟨⟨J,z,⟨K,U⟩,bx⟩,g⟩:=g;obtain⟨b,j,q,d⟩:=p g (λe i=>hY _ i);have l:=u.tmp k;rw[J] at l;have I:E.getD k bW=v:=x k (by simp[hP]) v ac;rw[I] at l;obtain⟨D,_⟩:=u.tree k _ z;refine⟨t k::b,⟨?_,j⟩,by grind [ajc,hP],λid a=>?_⟩
   ·cases l with
    |me=>omega
    |view y H aw cs cv=>
    rename_i c2 d2 co M P V N;rw[z] at y;cases y;obtain⟨aq,a0,R⟩:=ait.1 H;simp only[ah.osl.injEq] at aq;subst aq;have O:L k=[.slice (Y ⟨M,P,bo⟩) V N]:=R;have S:=D;obtain⟨ap,av,ad,c1⟩:=S;rw[ad] at O;simp only[hL,ah7,b9] at O;refine⟨M,P,N,by rw[ax aa],aa,?_⟩;have:=aR.fZ (τ:=.osl an) (B':=B) K D;grind
   rcases fV.1 a with rfl|a
   ·grind
   grind
theorem rS.XV {q:FuncId} {j:Func} {c:Code} {b:bm hE} {a0:bm ah8} {C:bm aF} (ds:E.P.funcs[q]?=Y j) (f:j.body=Y c) (d3:j.results=a0.toArray) (ft:b.length<=j.ntmps) (g:∀d:eX,d.n=j.ntmps->d.pin=hP 0 b++nO (pd 0 b)->(∀a,d.I0 a\/d.B a->a<d.w0.heap.size/\¬d.F0 a)->tU d (pd 0 b)->lm E d.I0 d.w0->J E d c ⟨jE 0 b,j8 0 b⟩ (Ky E.P b a0 C)):rS E q b C:=by
 intro r s y l K R N d1 O U d0;obtain⟨d6,fs⟩:=Gc N;obtain⟨a3,H,bx,ce,fl⟩:=Lf (k:=0) N
 let d:eX:={I0:=s,B:=y,F0:=λa=>a∈K.flatten,w0:=r,n:=j.ntmps,pin:=hP 0 b++nO (pd 0 b),vs:=λi=>l.getD i bW}
 have ad:∀i,(l.toArray++alj (j.ntmps-l.toArray.size) bW).getD i bW=l.getD i undef:=(by intro i;rw[ali,lX];grind);obtain⟨fT,f0⟩:=XD d1;have cs:cM d ⟨jE 0 b,j8 0 b⟩ (l.toArray++alj (j.ntmps-l.toArray.size) bW) r s a3 H:=by
  refine{n:=?_,i0:=λ_ g=>g,i1:=λ_ g=>.inl g,ib:=R,tree:=?_,dis:=?_,tmp:=?_,frame:=λ_ _ _=>rfl,evo:=λ_ _=>.refl _ _,size:=bc _,os:=rfl,tape:=rfl,output:=rfl,pin:=λi _=>ad i}
  ·grind
  ·intro id m v;obtain⟨_,⟨q,aw,d9⟩,ek⟩:=bx id m v;rw[Nat.sub_zero] at aw;grind [ajn,aig]
  ·grind
  intro i;show cN _ _ _ _ _ (gt (jE 0 b) i) _;rw[ad];rcases ce i with g|⟨w,M,co⟩
  ·rw[nf] at g;rw[g];exact .dead _
  grind
 have d4:tU d (pd 0 b):=by
  cases o:pd 0 b with
  |none=>trivial
  |some d8=>
   obtain⟨i,q,ap⟩:=d8;rw[o] at U;obtain⟨_,_,a,d7,ex,D,F,bl,em,eq⟩:=U;have fz:d.pin=hP 0 b++nO (Y (i,q,ap)):=(by grind);refine⟨by grind [nO],λan T=>by grind [nO],a,d7,ex,D,F,bl,em,eq⟩
 refine calls_of_wp ds f (wp_mono (g d bn rfl (λa f=>⟨R a f,λt=>f.elim (O a t).1 (O a t).2.1⟩) d4 d0 _ r ⟨s,a3,H,cs⟩ rfl) ?_);rintro fn G x ⟨bs,⟨dl,am,d2,A,t⟩,⟨z,f3,I,e⟩,Q⟩;obtain⟨f4,o,el,D,⟨f2,F⟩,bl⟩:=tT.rep (w0:=r) e d2;obtain⟨p,ci,L,fp⟩:=pD.rep e (B:=y) (vs:=l) t d6 (λan T w d5=>by
  rw[Nat.sub_zero] at d5;rw[e.pin an (r1 _ T)];grind)
 have A:=jq.ok A;have V:∀id∈hP 0 b++am,∃m,ar bs.h id=Y m:=λid S=>(by grind);have u:=IL e V A;rw[jh,ym,<-L] at u;have u:(p.flatten++o.flatten).Nodup:=(by have:=(akD p.flatten F).nodup_iff.1 u;grind);have cv:∀a∈p.flatten++o.flatten,∃id m,ar bs.h id=Y m/\a∈I id:=λa f=>(by have f:a∈((hP 0 b++am).map I).flatten:=(by rw[jh,ym,<-L];grind);obtain⟨ap,M,co⟩:=lY.1 f;obtain⟨id,S,rfl⟩:=eY.1 M;obtain⟨m,v⟩:=V id S;grind);have av:∃w,(results j G.tmps).run E.P x=.ok w x/\∃z p o a4,Ending.returned w=.returned (qd a4)/\KJ s y r K b l C z p o a4 x:=
  ⟨_,acE d3 G.tmps x el,z,p,o,_,bn,ci,D,u,(λa f=>by
   obtain⟨id,m,v,c1⟩:=cv a f;obtain⟨aw,d9,ek,f1⟩:=(e.tree id m v).2.2 a c1;grind),e.i0,(λa f=>by
   rcases e.i1 a f with g|g|g
   ·grind
   ·exact .inr ⟨e.ib a (.inl f),.inl g⟩
   exact .inr ⟨e.ib a (.inl f),.inr g⟩),e.size,e.os,e.tape,e.output,e.evo,λa f c2=>e.frame a f c2⟩
 rcases dl with rfl|rfl
 ·exact⟨Q,av⟩
 exact⟨Q,av⟩
end
end
section
open Classical in
def pick {a:Type} (c:a->Prop):bv a:=if h:∃b,c b then Y h.choose else bo
theorem abb {d:b->Prop} {c:b} (a:pick d=Y c):d c:=by
 unfold pick at a;split at a
 ·grind
 grind
inductive oO where
 |v (τ:ah)
 |s (a:ak)
 |p (id:X) (a b:bm aZ)
 |w (id:X)
structure ng where
 g:bm (X×oO)
 h:bm (X×ah)
@[reducible] def qh:bm (X×oO)->Type->Type
 |[],r=>r
 |(_,.v a)::l,r=>a.den×qh l r
 |(_,.s _)::l,r=>qh l r
 |(_,.p _ _ _)::l,r=>X×qh l r
 |(_,.w _)::l,r=>ep×qh l r
@[reducible] def vw:bm (X×ah)->Type
 |[]=>bt
 |(_,a)::l=>a.den×vw l
@[reducible] def ng.den (a:ng):Type:=qh a.g (vw a.h)
def oa {e:Type}:(c:bm (X×oO))->qh c e->bm (X×ak)
 |[],_=>[]
 |(d,.v f)::c,s=>(d,.val f s.1)::oa c s.2
 |(d,.s a)::c,s=>(d,a)::oa c s
 |(d,.p id a b)::c,s=>(d,.ref id (a++.idx s.1::b))::oa c s.2
 |(d,.w id)::c,s=>(d,.view id [] s.1.1 s.1.2)::oa c s.2
def uO {b:Type}:(a:bm (X×oO))->qh a b->b
 |[],s=>s
 |(_,.v _)::a,s=>uO a s.2
 |(_,.s _)::a,s=>uO a s
 |(_,.p _ _ _)::a,s=>uO a s.2
 |(_,.w _)::a,s=>uO a s.2
def uM:(a:bm (X×ah))->vw a->bm (X×aF)
 |[],_=>[]
 |(d,b)::a,s=>(d,⟨b,s.1⟩)::uM a s.2
def kY (a:ng) (b:a.den):aO:=⟨oa a.g b,uM a.h (uO a.g b)⟩
def hZ {τ:ah} (a:ah) (b:τ.den):bv a.den:=if e:τ=a then Y (e▸b) else bo
theorem ka {a:Q.den} {b:k.den} (c:hZ k a=Y b):(⟨Q,a⟩:aF)=⟨k,b⟩:=by grind [hZ]
def vB:aZ->aZ->bA
 |.idx a,.idx b=>bH a b
 |.deref,.deref|.unst,.unst|.fst,.fst|.snd,.snd=>bp
 |_,_=>bq
theorem vB.ok {a b:aZ} (c:vB a b=bp):a=b:=by cases a<;>cases b<;>first|rfl|(cases c;done)|(rw[fv c])
def ma:bm aZ->bm aZ->bA
 |[],[]=>bp
 |a::c,b::d=>vB a b&&ma c d
 |_,_=>bq
theorem ma.ok:∀{c d:bm aZ},ma c d=bp->c=d
 |[],[],_=>rfl
 |[],_::_,b=>by cases b
 |_::_,[],b=>by cases b
 |a::c,e::d,b=>by simp only[ma,cC] at b;rw[vB.ok b.1,ma.ok b.2]
def tY:ak->ak->bA
 |.ref a c,.ref b d=>bH a b&&ma c d
 |.addr a c,.addr b d=>bH a b&&ma c d
 |_,_=>bq
theorem tY.ok {a b:ak} (c:tY a b=bp):a=b:=by cases a<;>cases b<;>first|(cases c;done)|(simp only[tY,cC] at c;grind [aiK,ma.ok])
def tZ:bm ak->bm ak->bA
 |[],[]=>bp
 |a::c,b::d=>tY a b&&tZ c d
 |_,_=>bq
theorem tZ.ok:∀{c d:bm ak},tZ c d=bp->c=d
 |[],[],_=>rfl
 |[],_::_,b=>by cases b
 |_::_,[],b=>by cases b
 |a::c,e::d,b=>by simp only[tZ,cC] at b;rw[tY.ok b.1,tZ.ok b.2]
def se:ak->ak->bA
 |.eA c e,.eA d f=>bH c d&&tZ e f
 |a,b=>tY a b
theorem se.ok {a b:ak} (c:se a b=bp):a=b:=by cases a<;>cases b<;>first|exact tY.ok c|(simp only[se,cC] at c;grind [aiK,tZ.ok])
def A2:bm aZ->bm aZ->bm aZ->ahU
 |[],a,.idx k::b=>bif ma a b then Y k else bo
 |s::c,a,d::b=>bif vB s d then A2 c a b else bo
 |_,_,_=>bo
theorem QM:∀{d b e:bm aZ} {c:X},A2 d b e=Y c->e=d++.idx c::b
 |[],b,[],c,a=>by cases a
 |[],b,s::e,c,a=>by
  cases s<;>simp only[A2] at a<;>try (cases a;done)
  grind [ma.ok]
 |s::d,b,[],c,a=>by cases a
 |s::d,b,g::e,c,a=>by
  simp only[A2] at a;cases f:vB s g with
  |false=>grind
  |true=>rw[f] at a;rw[vB.ok f,QM a];rfl
def qb {f:Type} (e:bm (X×ak)) (g:bv f):(c:bm (X×oO))->bv (qh c f)
 |[]=>g
 |(d,.v o)::c=>match gt e d with
  |.val _ m=>match hZ o m with
   |some n=>(qb e g c).map (λi=>(n,i))
   |none=>bo
  |_=>bo
 |(d,.s a)::c=>match se a (gt e d) with
  |true=>qb e g c
  |false=>bo
 |(d,.p id a b)::c=>match gt e d with
  |.ref h i=>bif bH id h then match A2 a b i with
   |some k=>(qb e g c).map (λf=>(k,f))
   |none=>bo else bo
  |_=>bo
 |(d,.w id)::c=>match gt e d with
  |.view h [] l j=>bif bH id h then(qb e g c).map (λf=>((l,j),f)) else bo
  |_=>bo
def ET (b:bm (X×aF)):(a:bm (X×ah))->bv (vw a)
 |[]=>Y ()
 |(d,g)::a=>match ar b d with
  |some e=>match hZ g e.2 with
   |some f=>(ET b a).map (λc=>(f,c))
   |none=>bo
  |none=>bo
def xi:bm (X×ah)->X->bA
 |[],_=>bq
 |(k,_)::r,n=>bif bH k n then bp else xi r n
def qi:bm (X×oO)->bm (X×ah)->bA
 |[],_=>bp
 |(_,.v _)::l,h=>qi l h
 |(_,.s a)::l,h=>(a.ids.all λid=>xi h id)&&qi l h
 |(_,.p id _ _)::l,h=>xi h id&&qi l h
 |(_,.w id)::l,h=>xi h id&&qi l h
def proj (a:ng) (b:aO):bv a.den:=bif qi a.g a.h then qb b.g (ET b.h a.h) a.g else bo
theorem DD:∀{b:bm (X×ah)} {c:vw b} {id:X},xi b id=bp->(ar (uM b c) id).isSome=bp
 |[],_,_,a=>by cases a
 |(k,e)::b,c,id,a=>by
  simp only[xi] at a;simp only[uM,ar];cases d:bH k id with
  |true=>rfl
  |false=>rw[d] at a;exact DD (by grind)
theorem AE {o:Type} {q:aO} {n:bv o}:∀{e:bm (X×oO)} {f:qh e o},qb q.g n e=Y f->oW (oa e f) q/\n=Y (uO e f)
 |[],f,c=>⟨trivial,c⟩
 |(d,.v F)::e,f,c=>by
  simp only[qb] at c;split at c
  case h_2=>cases c
  rename_i G D t;split at c
  case h_2=>cases c
  rename_i E u;obtain⟨x,k,rfl⟩:=fD.1 c;obtain⟨h,i⟩:=AE k;refine⟨⟨?_,h⟩,i⟩;rw[t];cases ka u;rfl
 |(d,.s a)::e,f,c=>by
  simp only[qb] at c;split at c
  case h_2=>cases c
  rename_i r;obtain⟨h,i⟩:=AE c;exact⟨⟨(se.ok r).symm,h⟩,i⟩
 |(d,.p id a b)::e,f,c=>by
  simp only[qb] at c;split at c
  case h_2=>cases c
  rename_i m x k;cases j:bH id m with
  |false=>grind
  |true=>
  rw[j] at c;simp only[bG] at c;split at c
  case h_2=>cases c
  rename_i B A;obtain⟨y,l,rfl⟩:=fD.1 c;obtain⟨h,i⟩:=AE l;refine⟨⟨?_,h⟩,i⟩;grind [QM,aiK]
 |(d,.w id)::e,f,c=>by
  simp only[qb] at c;split at c
  case h_2=>cases c
  rename_i m C z k;cases j:bH id m with
  |false=>grind
  |true=>
  rw[j] at c;simp only[bG] at c;obtain⟨y,l,rfl⟩:=fD.1 c;obtain⟨h,i⟩:=AE l;refine⟨⟨?_,h⟩,i⟩;simp_all
theorem PL {e:aO}:∀{b:bm (X×ah)} {c:vw b},ET e.h b=Y c->oX (uM b c) e
 |[],c,a=>trivial
 |(d,m)::b,c,a=>by
  simp only[ET] at a;split at a
  case h_2=>cases a
  rename_i k g;split at a
  case h_2=>cases a
  rename_i l i;obtain⟨j,f,rfl⟩:=fD.1 a;refine⟨?_,PL f⟩;grind [ka]
theorem A0 {r:Type} {c:bm (X×ah)} {t:vw c}:∀{l:bm (X×oO)} {s:qh l r},qi l c=bp->mw (oa l s) (uM c t)=bp
 |[],s,h=>rfl
 |(d,.v e)::l,s,h=>by have:=A0 (r:=r) (t:=t) (l:=l) (s:=s.2) h;simp only[mw,oa,rX,bT,alk,ajX] at this|-;omega
 |(d,.s a)::l,s,h=>by simp only[qi,cC] at h;have:=A0 (r:=r) (t:=t) (l:=l) (s:=s) h.2;simp only[mw,oa,rX,cC] at this|-;grind [DD,ai5]
 |(_,.p id a b)::l,s,h=>by simp only[qi,cC] at h;have:=A0 (r:=r) (t:=t) (l:=l) (s:=s.2) h.2;simp only[mw,oa,rX,cC] at this|-;refine⟨?_,this⟩;simp_all [DD,rX,alk,akE,bT]
 |(_,.w id)::l,s,h=>by simp only[qi,cC] at h;have:=A0 (r:=r) (t:=t) (l:=l) (s:=s.2) h.2;simp only[mw,oa,rX,cC] at this|-;refine⟨?_,this⟩;simp_all [DD,rX,alk,akE,bT]
theorem te {a:ng} {b:a.den} (c:proj a i=Y b):oW (kY a b).g i/\oX (kY a b).h i/\mw (kY a b).g (kY a b).h=bp:=by
 unfold proj at c;cases d:qi a.g a.h with
 |false=>grind
 |true=>
  rw[d] at c;obtain⟨e,f⟩:=AE c;exact⟨e,PL f,A0 d⟩
inductive hl where
 |v (τ:ah)
 |m (τ:ah)
 |o (τ:ah)
 |c (f:X) (τs:bm ah)
 |n
 |s (f:X) (l:ahY)
 |w (σ:ah)
@[reducible] def lJ:bm ah->Type
 |[]=>bt
 |τ::a=>τ.den×lJ a
@[reducible] def hp:bm hl->Type
 |[]=>bt
 |.c _ e::a=>lJ e×hp a
 |.n::a=>bt×hp a
 |.s _ _::a=>bt×hp a
 |.v b::a=>b.den×hp a
 |.m b::a=>b.den×hp a
 |.o b::a=>b.den×hp a
 |.w d::a=>(bm d.den×X×X)×hp a
@[reducible] def iM:bm hl->Type->Type
 |[],a=>a
 |.m e::b,a=>e.den×iM b a
 |.w d::b,a=>bm d.den×iM b a
 |.v _::b,a=>iM b a
 |.o _::b,a=>iM b a
 |.c _ _::b,a=>iM b a
 |.n::b,a=>iM b a
 |.s _ _::b,a=>iM b a
structure jx where
 f:X
 ps:bm hl
 rs:bm ah
 xW:hp ps->bv (iM ps (lJ rs))
def iT:(c:bm ah)->lJ c->bm aF
 |[],_=>[]
 |τ::b,a=>⟨τ,a.1⟩::iT b a.2
def gG {j:Type}:(f:bm hl)->hp f->iM f j->bm hE
 |[],_,_=>[]
 |.v e::d,a,b=>.v ⟨e,a.1⟩::gG d a.2 b
 |.m e::d,a,b=>.m ⟨e,a.1⟩ b.1::gG d a.2 b.2
 |.o e::d,a,b=>.o ⟨e,a.1⟩::gG d a.2 b
 |.c h l::d,a,b=>.c h (iT l a.1)::gG d a.2 b
 |.n::d,a,b=>.n::gG d a.2 b
 |.w k::d,a,b=>.w k a.1.1 a.1.2.1 a.1.2.2 b.1::gG d a.2 b.2
 |.s g i::d,a,b=>.s g i::gG d a.2 b
def ip {d:Type}:(e:bm hl)->iM e d->d
 |[],a=>a
 |.m _::b,a=>ip b a.2
 |.w _::b,a=>ip b a.2
 |.v _::b,a=>ip b a
 |.o _::b,a=>ip b a
 |.c _ _::b,a=>ip b a
 |.n::b,a=>ip b a
 |.s _ _::b,a=>ip b a
def ju:X->bm hl->bv ec
 |_,[]=>bo
 |k,.s a b::_=>Y (k,a,b)
 |k,_::c=>ju (k+1) c
theorem AV {r:Type}:∀{k:X} {ps:bm hl} {a:hp ps} {b:iM ps r},pd k (gG ps a b)=ju k ps
 |k,[],a,b=>rfl
 |k,e::d,a,b=>by have c:=λa b=>AV (r:=r) (k:=k+1) (ps:=d) (a:=a) (b:=b);cases e<;>first|exact c _ _|rfl
def aD (E:fB) (a:jx):Prop:=
 (∀(d:ahQ) (e:bD),(callFunc a.f d).run E.P e=.ok (.enter a.f d) e)/\∀c b,a.xW c=Y b->rS E a.f (gG a.ps c b) (iT a.rs (ip a.ps b))
def h0:(j:ah)->j.den->bm aZ->(a:ah)->bv a.den
 |_,c,[],a=>hZ a c
 |.osl d,i,.idx h::b,a=>match i[h]? with
  |some g=>h0 d g b a
  |none=>bo
 |.optr d,c,.deref::b,a=>h0 d c b a
 |.st d,c,.unst::b,a=>h0 d c b a
 |.pr e _,c,.fst::b,a=>h0 e c.1 b a
 |.pr _ f,c,.snd::b,a=>h0 f c.2 b a
 |_,_,_,_=>bo
def Vw {a:k.den}:h0 k a [] Q=hZ Q a:=by cases k<;>rfl
theorem iL:∀{g:bm aZ} {τ:ah} {e:τ.den} {d:ah} {f:d.den},h0 τ e g d=Y f->eN τ e g d f
 |[],τ,e,d,f,c=>by rw[Vw] at c;cases ka c;grind [eN.gw]
 |s::g,τ,e,d,f,c=>by
  cases τ<;>cases s<;>simp only[h0] at c<;>try (cases c;done)
  case osl.idx t i=>
   split at c
   ·rename_i h j;exact⟨h,j,iL c⟩
   grind
  case optr.deref t=>exact iL (τ:=t) c
  case st.unst t=>exact iL (τ:=t) c
  case pr.fst a b=>exact iL (τ:=a) c
  case pr.snd a b=>exact iL (τ:=b) c
def xN {τ':ah} (b:τ'.den) (a:ah):bv a.den:=if e:eH τ' a=bp then Y (cast (eH.den e) b) else bo
theorem PC {b:Q.den} {c:k.den} (a:xN b k=Y c):n1 Q b k c:=by
 unfold xN at a;split at a
 ·rename_i d;cases a;exact .same d (cast_heq _ _).symm
 grind
def AA:(c:ah)->c.den->(b:ah)->bv b.den
 |.optr d,a,.ptr .df e=>(xN (τ':=d) a e).map Y
 |_,a,b=>xN a b
theorem aa0 {c:Q.den} {d:k.den} (a:AA Q c k=Y d):n1 Q c k d:=by
 unfold AA at a;split at a
 ·obtain⟨f,b,rfl⟩:=fD.1 a;simp only[xN] at b;split at b
  ·rename_i e;cases b;exact .ptr e (cast_heq _ _).symm
  grind
 exact PC a
def pS:ah->Value->bA
 |τ,.agg _=>o6 τ
 |_,.tuple _=>bq
 |τ,_=>!o6 τ
theorem pS.ok (a:pS k S=bp):cX k S.cells.toList=S:=by
 cases S<;>simp only[pS] at a<;>first
  |(cases a;done)
  |(rw[E1 a];rfl)
  |(rw[tC] at a;rw[E0 a];rfl)
def nt (
 h:bm (X×aF)) (f:ahY):ak->(a:ah)->bv a.den
 |.val _ g,a=>xN g a
 |.dg d,a=>bif pS a d then iK a d.cells.toList else bo
 |.ref id c,a=>match eP id f with
  |true=>bo
  |false=>match ar h id with
   |none=>bo
   |some b=>match fm b.1 c with
    |none=>bo
    |some e=>match h0 b.1 b.2 c e with
     |none=>bo
     |some i=>AA e i a
 |_,_=>bo
theorem Gh {h:k.den} (a:nt e f d k=Y h):x7 e f d ⟨k,h⟩:=by
 cases d with
 |val c b=>exact PC a
 |dg p=>
  simp only[nt] at a;cases i:pS k p with
  |false=>grind
  |true=>rw[i] at a;exact⟨a,pS.ok i⟩
 |ref id n=>
  simp only[nt] at a;split at a
  ·cases a
  rename_i j;split at a
  ·cases a
  rename_i o l;split at a
  ·cases a
  rename_i c q;split at a
  ·cases a
  rename_i b m;have:eP id f=bq/\∃g c b,ar e id=Y g/\eN g.1 g.2 n c b/\n1 c b k h:=⟨j,o,c,b,l,iL m,aa0 a⟩;exact this
 |_=>cases a
def ue (d:bm (X×aF)) (c:ahY):ak->(b:ah)->bv b.den
 |.hy a,.ptr .bg e=>bif oE e then(nt d c a e).map Y else bo
 |a,b=>nt d c a b
def sl (d:bm (X×aF)) (c:ahY):bm ak->(b:ah)->bv b.den
 |[],.nil=>Y ()
 |a::f,.pr e b=>bif oE e then(ue d c a e).bind λh=>(sl d c f b).map λg=>(h,g) else bo
 |_,_=>bo
def wA (d:bm (X×aF)) (c:ahY):ak->(b:ah)->bv b.den
 |.hy (.eA f e),.ptr .bg (.fn g h)=>bif bH f g then(sl d c e h).map Y else bo
 |a,b=>ue d c a b
def LB {c:k.den} (a:ue e f d k=Y c):oH e f d k c:=by
 unfold ue at a;split at a
 ·rename_i i h;cases b:oE h with
  |false=>rw[b] at a;cases a
  |true=>
   rw[b,bG] at a;obtain⟨j,g,rfl⟩:=fD.1 a;exact .hy b (.base (Gh g))
 exact .base (Gh a)
def LD {h:bm (X×aF)} {g:ahY}:∀{f:bm ak} {c:ah} {d:c.den},sl h g f c=Y d->vO h g f c d
 |[],c,d,b=>by
  cases c<;>simp only[sl] at b<;>try (cases b;done)
  exact .nil
 |a::f,c,d,b=>by
  cases c<;>simp only[sl] at b<;>try (cases b;done)
  rename_i c l;cases e:oE c with
  |false=>rw[e] at b;cases b
  |true=>
   rw[e,bG] at b;obtain⟨m,j,b⟩:=eO.1 b;obtain⟨k,i,rfl⟩:=fD.1 b;exact .cons e (LB j) (LD i)
def Tq {c:k.den} (a:wA e f d k=Y c):oH e f d k c:=by
 unfold wA at a;split at a
 ·rename_i h j i l;cases b:bH h i with
  |false=>rw[b] at a;cases a
  |true=>
   rw[b,bG] at a;obtain rfl:=fv b;obtain⟨m,g,rfl⟩:=fD.1 a;exact .hy bn (.eA (LD g))
 exact LB a
def o5 (b:bm (X×aF)) (a:ahY):(g:bm ah)->bm ak->bv (lJ g)
 |[],[]=>Y ()
 |τ::d,c::as=>match wA b a c τ with
  |some f=>(o5 b a d as).map (λe=>(f,e))
  |none=>bo
 |_,_=>bo
def M0 {f:bm (X×aF)} {d:ahY}:∀{c:bm ah} {e:bm ak} {b:lJ c},o5 f d c e=Y b->iw (λb g=>oH f d b g.1 g.2) e (iT c b)
 |[],[],_,_=>trivial
 |[],_::_,_,a=>by cases a
 |_::_,[],_,a=>by cases a
 |τ::k,j::as,b,a=>by
  simp only[o5] at a;split at a
  case h_2=>cases a
  rename_i m i;obtain⟨l,h,rfl⟩:=fD.1 a;exact⟨Tq i,M0 h⟩
def rM:bm ak->bm hl->ahY
 |.ref id []::as,.m _::a=>id::rM as a
 |.ref id []::as,.o _::a=>id::rM as a
 |.view id [] _ _::as,.w _::a=>id::rM as a
 |_::as,_::a=>rM as a
 |_,_=>[]
def s6:Value->bA
 |.slice bo 0 0=>bp
 |_=>bq
theorem s6.ok (a:s6 S=bp):S=.slice bo 0 0:=by grind [s6]
def Am:(a:ah)->Value->bv a.den
 |.osl _,.slice bo 0 0=>Y []
 |_,_=>bo
theorem XO {b:k.den} (a:Am k S=Y b):S=.slice bo 0 0/\∃c,(⟨k,b⟩:aF)=⟨.osl c,[]⟩:=by
 unfold Am at a;split at a
 ·simp_all
 grind
def fM (d:bm (X×aF)) (f:ahY):(t:bm hl)->bm ak->bv (hp t)
 |[],[]=>Y ()
 |.v g::b,p::as=>match nt d f p g with
  |some e=>(fM d f b as).map (λa=>(e,a))
  |none=>bo
 |.c r u::b,.eA q a::as=>bif bH q r then match o5 d f u a with
  |some e=>(fM d f b as).map (λa=>(e,a))
  |none=>bo else bo
 |.m g::b,.ref id []::as=>bif g.fZ&&rO g then match ar d id with
  |some h=>match hZ g h.2 with
   |some e=>(fM d f b as).map (λa=>(e,a))
   |none=>bo
  |none=>bo else bo
 |.o g::b,.ref id []::as=>match ar d id with
  |some h=>match hZ g h.2 with
   |some e=>(fM d f b as).map (λa=>(e,a))
   |none=>bo
  |none=>bo
 |.n::b,.dg i::as=>bif s6 i then(fM d f b as).map (λa=>((),a)) else bo
 |.s _ _::b,_::as=>(fM d f b as).map (λa=>((),a))
 |.o g::b,.dg i::as=>match Am g i with
  |some e=>(fM d f b as).map (λa=>(e,a))
  |none=>bo
 |.w l::b,.view id [] k j::as=>bif l.fZ then(bif cb k j then match ar d id with
  |some h=>match hZ (.osl l) h.2 with
   |some e=>(fM d f b as).map (λa=>((e,k,j),a))
   |none=>bo
  |none=>bo else bo) else bo
 |_,_=>bo
def BA {h:Type} (f:bm (X×aF)) (e:ahY) (av:ak) (c:ah) (d:c.den->bv h):bv h:=match av with
 |.ref id g=>match eP id e with
  |true=>bo
  |false=>match ar f id with
   |none=>bo
   |some a=>match fm a.1 g with
    |none=>bo
    |some i=>(h0 a.1 a.2 g i).bind λj=>match AA i j c with
     |none=>bo
     |some b=>d b
 |av=>match nt f e av c with
  |none=>bo
  |some b=>d b
theorem SR {c:k.den->bv b}:BA e f d k c=(nt e f d k).bind c:=by
 cases d with
 |ref id g=>
  grind [eP,ar,fm,h0,AA,BA,nt]
 |_=>
  simp only[BA];split
  ·rename_i a;rw[a];rfl
  rename_i a;rw[a];rfl
def ke {p:Type} (e:bm (X×aF)) (g:ahY):(x:bm hl)->bm ak->(hp x->bv p)->bv p
 |[],[],a=>a ()
 |.v h::d,r::as,a=>BA e g r h λf=>ke e g d as λb=>a (f,b)
 |.c u y::d,.eA t b::as,a=>bif bH t u then match o5 e g y b with
  |some f=>ke e g d as λb=>a (f,b)
  |none=>bo else bo
 |.m h::d,.ref id []::as,a=>bif h.fZ&&rO h then match ar e id with
  |some i=>match hZ h i.2 with
   |some f=>ke e g d as λb=>a (f,b)
   |none=>bo
  |none=>bo else bo
 |.o h::d,.ref id []::as,a=>match ar e id with
  |some i=>match hZ h i.2 with
   |some f=>ke e g d as λb=>a (f,b)
   |none=>bo
  |none=>bo
 |.n::d,.dg j::as,a=>bif s6 j then ke e g d as λb=>a ((),b) else bo
 |.s _ _::d,_::as,a=>ke e g d as λb=>a ((),b)
 |.o h::d,.dg j::as,a=>match Am h j with
  |some f=>ke e g d as λb=>a (f,b)
  |none=>bo
 |.w q::d,.view id [] l k::as,a=>bif q.fZ then(bif cb l k then match ar e id with
  |some i=>match hZ (.osl q) i.2 with
   |some f=>ke e g d as λb=>a ((f,l,k),b)
   |none=>bo
  |none=>bo else bo) else bo
 |_,_,_=>bo
theorem nB {A:Type} {d:bm (X×aF)} {f:ahY}:∀{k:bm hl} {q:bm ak} {b:hp k->bv A},ke d f k q b=(fM d f k q).bind b
 |[],[],b=>rfl
 |[],_::_,b=>rfl
 |p::a,[],b=>by cases p<;>rfl
 |.v h::a,e::as,b=>by
  simp only[ke,fM,SR];cases nt d f e h with
  |none=>rfl
  |some g=>
   simp only[aC];rw[nB];cases fM d f a as<;>rfl
 |.c z B::a,e::as,b=>by
  cases e with
  |eA y i=>
   simp only[ke,fM];cases bH y z with
   |false=>rfl
   |true=>
    simp only[bG];cases o5 d f B i with
    |none=>rfl
    |some g=>
     simp only;rw[nB];cases fM d f a as<;>rfl
  |ref id p=>cases p<;>rfl
  |_=>rfl
 |.m h::a,e::as,b=>by
  cases e with
  |ref id p=>
   cases p with
   |cons=>rfl
   |nil=>
    simp only[ke,fM];cases(h.fZ&&rO h) with
    |false=>rfl
    |true=>
     simp only[bG];cases ar d id with
     |none=>rfl
     |some j=>
      simp only;cases hZ h j.2 with
      |none=>rfl
      |some g=>
       simp only;rw[nB];cases fM d f a as<;>rfl
  |_=>rfl
 |.o h::a,e::as,b=>by
  cases e with
  |ref id p=>
   cases p with
   |cons=>rfl
   |nil=>
    simp only[ke,fM];cases ar d id with
    |none=>rfl
    |some j=>
     simp only;cases hZ h j.2 with
     |none=>rfl
     |some g=>
      simp only;rw[nB];cases fM d f a as<;>rfl
  |dg l=>
   simp only[ke,fM];cases Am h l with
   |none=>rfl
   |some g=>
    simp only;rw[nB];cases fM d f a as<;>rfl
  |_=>rfl
 |.w u::a,e::as,b=>by
  cases e with
  |view id p t r=>
   cases p with
   |cons=>rfl
   |nil=>
    simp only[ke,fM];cases u.fZ with
    |false=>rfl
    |true=>
     simp only[bG];cases cb t r with
     |false=>rfl
     |true=>
     simp only[bG];cases ar d id with
     |none=>rfl
     |some j=>
      simp only;cases hZ (.osl u) j.2 with
      |none=>rfl
      |some g=>
       simp only;rw[nB];cases fM d f a as<;>rfl
  |ref id p=>cases p<;>rfl
  |_=>rfl
 |.n::a,e::as,b=>by
  cases e with
  |dg l=>
   simp only[ke,fM];cases s6 l with
   |false=>rfl
   |true=>
    simp only[bG];rw[nB];cases fM d f a as<;>rfl
  |ref id p=>cases p<;>rfl
  |_=>rfl
 |.s C i::a,e::as,b=>by
  have x:∀g:bv (hp a),(g.bind λi=>b ((),i))=(g.map λi=>((),i)).bind b:=λg=>(by cases g<;>rfl);cases e with
  |ref id p=>cases p<;>(simp only[ke,fM];rw[nB];grind)
  |view id p t r=>cases p<;>(simp only[ke,fM];rw[nB];grind)
  |_=>simp only[ke,fM];rw[nB];exact x _
theorem J0 {r:Type}:∀{ps:bm hl} {a:hp ps} {b:iM ps r} {avs:bm ak},gu avs (gG ps a b)=rM avs ps
 |[],a,b,avs=>by cases avs with|nil=>rfl|cons h c=>cases h<;>first|rfl|(rename_i id p;cases p<;>rfl)|(rename_i id p c g;cases p<;>rfl)
 |p::c,a,b,[]=>by cases p<;>rfl
 |p::c,a,b,f::avs=>by have d:=λa b=>J0 (r:=r) (ps:=c) (a:=a) (b:=b) (avs:=avs);cases p<;>cases f<;>first|exact d _ _|(rename_i id e;cases e<;>simp only[gG,gu,rM,d];done)|(rename_i id e c g;cases e<;>simp only[gG,gu,rM,d])
theorem p1 {G:Type} {q:bm (X×aF)} {u:ahY}:∀{r:bm hl} {e:hp r} {g:iM r G} {h:bm ak},fM q u r h=Y e->oG q u h (gG r e g)
 |[],e,g,[],_=>trivial
 |[],e,g,_::_,a=>by cases a
 |p::i,e,g,[],a=>by cases p<;>cases a
 |.v t::i,e,g,d::h,a=>by
  simp only[fM] at a;split at a
  case h_2=>cases a
  rename_i l j;obtain⟨k,b,rfl⟩:=fD.1 a;exact⟨by cases d<;>exact Gh j,p1 b⟩
 |.c F J::i,e,g,d::h,a=>by
  cases d with
  |eA E k=>
   simp only[fM] at a;cases f:bH E F with
   |false=>grind
   |true=>
    rw[f] at a;obtain rfl:=fv f;simp only[bG] at a;split at a
    case h_2=>cases a
    rename_i l j;obtain⟨I,b,rfl⟩:=fD.1 a;exact⟨⟨bn,M0 j⟩,p1 b⟩
  |ref id p=>cases p<;>cases a
  |_=>cases a
 |.m t::i,e,g,d::h,a=>by
  cases d with
  |ref id p=>cases p with
   |cons=>cases a
   |nil=>
    simp only[fM] at a;cases f:(t.fZ&&rO t) with
    |false=>grind
    |true=>
     rw[f] at a;simp only[cC] at f;simp only[bG] at a;split at a
     case h_2=>cases a
     rename_i B A;split at a
     case h_2=>cases a
     rename_i l j;obtain⟨k,b,rfl⟩:=fD.1 a;refine⟨⟨?_,f.1,f.2⟩,p1 b⟩;grind [ka]
  |_=>cases a
 |.o t::i,e,g,d::h,a=>by
  cases d with
  |ref id p=>cases p with
   |cons=>cases a
   |nil=>
    simp only[fM] at a;split at a
    case h_2=>cases a
    rename_i B A;split at a
    case h_2=>cases a
    rename_i l j;obtain⟨k,b,rfl⟩:=fD.1 a;refine⟨?_,p1 b⟩;show ar q id=Y _;grind [ka]
  |dg C=>
   simp only[fM] at a;split at a
   case h_2=>cases a
   rename_i l j;obtain⟨k,b,rfl⟩:=fD.1 a;exact⟨XO j,p1 b⟩
  |_=>cases a
 |.w H::i,e,g,d::h,a=>by
  cases d with
  |view id p y x=>cases p with
   |cons=>cases a
   |nil=>
    simp only[fM] at a;cases f:H.fZ with
    |false=>grind
    |true=>
     rw[f] at a;simp only[bG] at a;cases z:cb y x with
     |false=>grind
     |true=>
     rw[z] at a;simp only[bG] at a;split at a
     case h_2=>cases a
     rename_i B A;split at a
     case h_2=>cases a
     rename_i l j;obtain⟨k,b,rfl⟩:=fD.1 a;refine⟨⟨?_,⟨bn,bn⟩,gT z,f⟩,p1 b⟩;grind [ka]
  |ref id p=>cases p<;>cases a
  |_=>cases a
 |.n::i,e,g,d::h,a=>by
  cases d with
  |dg C=>
   simp only[fM] at a;cases f:s6 C with
   |false=>grind
   |true=>
    rw[f] at a;obtain⟨k,b,rfl⟩:=fD.1 a;exact⟨s6.ok f,p1 b⟩
  |ref id p=>cases p<;>cases a
  |_=>cases a
 |.s D k::i,e,g,d::h,a=>by
  have a:(fM q u i h).map (λl=>(((),l):hp (.s D k::i)))=Y e:=by
   cases d with
   |ref id p=>cases p<;>exact a
   |view id p y x=>cases p<;>exact a
   |_=>exact a
  obtain⟨l,b,rfl⟩:=fD.1 a;refine⟨?_,p1 b⟩;cases d with
  |ref id p=>cases p<;>trivial
  |view id p y x=>cases p<;>trivial
  |_=>trivial
end
section
def mD:(τ:ah)->τ.den->bm aZ->(b:ah)->b.den->bv τ.den
 |τ,_,[],_,a=>hZ τ a
 |.osl f,h,.idx g::c,b,a=>match h[g]? with
  |some k=>(mD f k c b a).map λe=>h.set g e
  |none=>bo
 |.optr f,d,.deref::c,b,a=>mD f d c b a
 |.st f,d,.unst::c,b,a=>mD f d c b a
 |.pr i _,d,.fst::c,b,a=>(mD i d.1 c b a).map λe=>(e,d.2)
 |.pr _ j,d,.snd::c,b,a=>(mD j d.2 c b a).map λe=>(d.1,e)
 |_,_,_,_,_=>bo
theorem acK {b:k.den} {a:Q.den}:mD k b [] Q a=hZ k a:=by cases k<;>rfl
theorem fa.XA {d:k.den} {a:Q.den} {b:k.den} (c:hZ k a=Y b):fa k d [] Q a b:=by cases ka c;cases k<;>exact⟨bn,bn⟩
theorem m3:∀{k:bm aZ} {τ:ah} {g:τ.den} {f:ah} {h:f.den} {j:τ.den},mD τ g k f h=Y j->fa τ g k f h j
 |[],τ,g,f,h,j,c=>by grind [fa.XA,acK]
 |s::k,τ,g,f,h,j,c=>by
  cases τ<;>cases s<;>simp only[mD] at c<;>try (cases c;done)
  case osl.idx t i=>
   split at c
   ·rename_i l m;obtain⟨d,e,rfl⟩:=fD.1 c;exact⟨l,d,m,m3 e,bn⟩
   grind
  case optr.deref t=>exact m3 (τ:=t) c
  case st.unst t=>exact m3 (τ:=t) c
  case pr.fst a b=>
   obtain⟨d,e,rfl⟩:=fD.1 c;exact⟨d,m3 e,bn⟩
  case pr.snd a b=>
   obtain⟨d,e,rfl⟩:=fD.1 c;exact⟨d,m3 e,bn⟩
def gv (a:Z):ahU:=if 0<=a then Y a.toNat else bo
theorem Xr {b:Z} (c:gv b=Y a):b=(a:Z):=by grind [gv]
def bj (b:X) (a:Z):ahU:=if 0<=a/\a.toNat<b then Y a.toNat else bo
theorem Nf {b:Z} (c:bj m b=Y a):b=(a:Z)/\a<m:=by grind [bj]
def cD (a:X):bv bt:=if a<=hB then Y () else bo
theorem xw {b:bt} (c:cD a=Y b):a<=hB:=by grind [cD]
def ki (b:cu) (c a:Z):ahT:=if a≠0 then Y (b.wrap (c.tdiv a)) else bo
def iC (b a:Z):ahT:=if a≠0 then Y (b.tmod a) else bo
def h2 (a:cu) (c b:Z):ahT:=if 0<=b then Y (a.wrap (c*2^min b.toNat a.bits)) else bo
def eJ (b:cu) (c a:Z):ahT:=if 0<=a then Y (c.fdiv (2^min a.toNat b.bits)) else bo
def ey (a:cu) (b c:Z):Z:=a.wrap (cg a.bits b&&&cg a.bits c).toNat
def fN (a:cu) (b c:Z):Z:=a.wrap (cg a.bits b|||cg a.bits c).toNat
def tA (a:cu) (b c:Z):Z:=a.wrap (cg a.bits b^^^cg a.bits c).toNat
def By (a:cu) (b c:Z):Z:=a.wrap (cg a.bits b&&&~~~cg a.bits c).toNat
def wu (c:bv ak) (a:X):ahU:=
 match c with
 |none=>Y a
 |some (.val (.int _) b)=>gv b
 |some _=>bo
theorem BI {c:bv ak} (b:wu c a=Y m):sj c a m:=by
 unfold wu at b;unfold sj;split at b
 ·grind
 ·exact Xr b
 grind
def g9 (b a c:X):bv bt:=if b<=a/\a<=c then Y () else bo
theorem Nz {b:X} {c:bt} (d:g9 m a b=Y c):m<=a/\a<=b:=by grind [g9]
def nK (_:X):bv bt:=Y ()
def fY (a b:Z):ahU:=if 0<=a/\a<=b/\b<=(hB:Z) then Y a.toNat else bo
open Classical in
def rz {b:Type} (c:X) (d a:bv b):bv b:=if c=0 then if d=a then a else bo else a
theorem Xx {d e:bv b} {c:b} (f:rz a d e=Y c):e=Y c/\(a=0->d=Y c):=by grind [absurd,rz]
def pQ:ahZ:=[0,1,28,2,29,14,24,3,30,22,20,15,25,17,4,8,31,27,13,23,21,19,16,7,26,12,18,6,11,5,10,9]
inductive FU where
 |e4 (av:ak)
 |opt (α:Type) (o:bv α) (f:α->ak)
 |new (α:Type) (o:bv α) (t:α->aF) (d:X)
 |no
def kz (tt:bm (bF×ah)) (z:bm (X×ah)) (k:bm (X×aF)) (g:bM->ak) (w:X) (v:Op):FU:=
 match v with
 |.binOp v _ b e _=>match g b,g e with
  |.val (.int c) b,.val (.int A) e=>if c=A then
   (match v with
   |.add=>.e4 (.val (.int c) (c.wrap (b+e)))
   |.sub=>.e4 (.val (.int c) (c.wrap (b-e)))
   |.mul=>.e4 (.val (.int c) (c.wrap (b*e)))
   |.quo=>.opt Z (ki c b e) (.val (.int c))
   |.rem=>.opt Z (iC b e) (.val (.int c))
   |.shl=>.opt Z (h2 c b e) (.val (.int c))
   |.shr=>.opt Z (eJ c b e) (.val (.int c))
   |.and=>.e4 (.val (.int c) (ey c b e))
   |.or=>.e4 (.val (.int c) (fN c b e))
   |.xor=>.e4 (.val (.int c) (tA c b e))
   |.andNot=>.e4 (.val (.int c) (By c b e))
   |_=>.no) else
   (match v with
   |.shl=>.opt Z (h2 c b e) (.val (.int c))
   |.shr=>.opt Z (eJ c b e) (.val (.int c))
   |_=>.no)
  |_,_=>.no
 |.unOp .neg _ b=>match g b with
  |.val (.int c) b=>.e4 (.val (.int c) (c.wrap (0-b)))
  |_=>.no
 |.convert t p b=>match ar tt t,ar tt p,g b with
  |some (.int _),Y (.int c),.val (.int _) b=>.e4 (.val (.int c) (c.wrap b))
  |_,_,_=>.no
 |.nilCheck b=>match g b with
  |.val (.ptr r a) b=>.opt a.den b λe=>.val (.ptr r a) (Y e)
  |_=>.no
 |.indexAddr h b q=>match gX tt h,g q with
  |some i,.val (.int _) q=>match g b with
   |.val (.a2 r a) j=>bif a7 i a then .opt a.den (ao j q) λe=>.val (.ptr r a) (Y e) else .no
   |.ref id f=>match ar k id with
    |some d=>match fm d.1 f with
     |some (.osl a)=>bif a7 i a then .opt X ((h0 d.1 d.2 f (.osl a)).bind λj=>bj j.length q) λc=>.addr id (f++[.idx c]) else .no
     |_=>.no
    |none=>.no
   |.view id [] s u=>match ar k id with
    |some d=>match d.1 with
     |.osl a=>bif a7 i a then .opt X (bj (u-s) q) λc=>.addr id [.idx (s+c)] else .no
     |_=>.no
    |none=>.no
   |_=>.no
  |_,_=>.no
 |.load h b=>match ar tt h with
  |some i=>match g b with
   |.addr id f=>match ar k id with
    |some d=>match fm d.1 f with
     |some a=>bif a7 i a&&a.pure then .opt a.den (h0 d.1 d.2 f a) λe=>.val a e else .no
     |none=>.no
    |none=>.no
   |.ref id f=>match ar k id with
    |some d=>match fm d.1 f with
     |some (.optr a)=>bif a7 i a&&a.pure then .opt a.den (h0 d.1 d.2 (f++[.deref]) a) λe=>.val a e else .no
     |_=>.no
    |none=>.no
   |.val (.ptr _ a) b=>bif a7 i a then .opt a.den b λe=>vi a e else .no
   |_=>.no
  |none=>.no
 |.fieldAddr h b m=>match lF tt h,g b with
  |some i,.val (.ptr r (.st a)) b=>bif a7 i a&&(fH a m).isSome then .opt a.den b λe=>(match rh a e m with
   |some n=>.val (.ptr r n.1) (Y n.2)
   |none=>.dead) else .no
  |_,_=>.no
 |.slice h b s u bo=>match gX tt h with
  |some i=>match g b with
   |.val (.a2 r a) j=>bif a7 i a then
    .opt ep ((wu (s.map g) 0).bind λl=>(wu (u.map g) j.length).bind λp=>(g9 l p j.length).map λ_=>(l,p)) (λn=>.val (.a2 r a) ((j.take n.2).drop n.1)) else .no
   |.ref id f=>match ar k id with
    |some d=>match fm d.1 f with
     |some (.osl a)=>bif a7 i a then
      .opt ep ((h0 d.1 d.2 f (.osl a)).bind λj=>(wu (s.map g) 0).bind λl=>(wu (u.map g) j.length).bind λp=>(g9 l p j.length).bind λ_=>(nK j.length).map λ_=>(l,p)) (λn=>.view id f n.1 n.2) else .no
     |_=>.no
    |none=>.no
   |_=>.no
  |none=>.no
 |.makeSlice h l o=>match gX tt h,ar z w,ar k w with
  |some i,Y (.osl a),bo=>match mf a,g l,g o with
   |some y,.val (.int _) l,.val (.int _) o=>bif a7 i a&&b2 a.size 2000 then
    .new X (fY l o) (λm=>⟨.osl a,bJ m y⟩) w else .no
   |_,_,_=>.no
  |_,_,_=>.no
 |.index h b q=>match ar tt h,g b,g q with
  |some .str,.dg (.string t),.val (.int _) m=>.opt Z (qk t m) (.val (.int .u8))
  |some .str,.val .str t,.val (.int _) m=>.opt Z (qk t m) (.val (.int .u8))
  |_,_,_=>.no
 |.lookup h b c B=>match k3 tt h,g b,g c with
  |some i,.ref id f,.val (.int .i64) c=>match ar k id with
   |some d=>match fm d.1 f with
    |some (.mp a)=>match mf a with
     |some y=>bif a7 i a then .opt (bv (bm (Z×a.den)×X)) (h0 d.1 d.2 f (.mp a)) λx=>Eh a x y c B else .no
     |none=>.no
    |_=>.no
   |none=>.no
  |_,_,_=>.no
 |.call o=>match o.callee,o.args.toList,o.argTypes.toList with
  |.builtin .len,[b],[h]=>match gX tt h,g b with
   |some _,.ref id f=>match ar k id with
    |some d=>match fm d.1 f with
     |some (.osl a)=>.opt (bm a.den) (h0 d.1 d.2 f (.osl a)) λj=>.val (.int .i64) (j.length:Z)
     |_=>.no
    |none=>.no
   |none,.ref id f=>match k3 tt h,ar k id with
    |some _,Y d=>match fm d.1 f with
     |some (.mp a)=>.opt (bv (bm (Z×a.den)×X)) (h0 d.1 d.2 f (.mp a)) λx=>.val (.int .i64) (xB x)
     |_=>.no
    |_,_=>.no
   |_,_=>.no
  |_,_,_=>.no
 |_=>.no
theorem MM:∀{t:ah} {y:t.den} {b:X},(fH t b).isSome=bp->∃d,rh t y b=Y d
 |.pr e c,y,0,_=>⟨_,bn⟩
 |.pr e c,y,b+1,a=>by
  simp only[fH] at a;split at a
  ·rename_i d f;exact MM (t:=c) (by grind)
  grind
 |.int _,_,_,a=>by cases a
 |.bool,_,_,a=>by cases a
 |.str,_,_,a=>by cases a
 |.a2 _ _,_,_,a=>by cases a
 |.ptr _ _,_,_,a=>by cases a
 |.osl _,_,_,a=>by cases a
 |.optr _,_,_,a=>by cases a
 |.st _,_,_,a=>by cases a
 |.nil,_,_,a=>by cases a
 |.eL,_,_,a=>by cases a
def FU.K (g:FU) (b:ak->bm (X×aF)->Prop):Prop:=
 match g with
 |.e4 e=>b e []
 |.opt _ c f=>∃a,c=Y a/\b (f a) []
 |.new _ c h d=>∃a,c=Y a/\b (.ref d []) [(d,h a)]
 |.no=>b6
theorem Hr {tt:bm (bF×ah)} {P:Op} {Q:ak->bm (X×aF)->Prop} (b:(kz tt l e V a P).K Q):(g2 tt l e V a P).K Q:=by
 unfold kz at b;split at b
 ·rename_i P r m j a0;simp only[g2];split at b
  case h_2=>exact b.elim
  rename_i q m T j h ad;simp only[h,ad];split at b
  ·rename_i x;subst x;split at b
   ·simp only[l1,cf];exact⟨_,⟨trivial,bn⟩,b⟩
   ·simp only[l1,cf];exact⟨_,⟨trivial,bn⟩,b⟩
   ·simp only[l1,cf];exact⟨_,⟨trivial,bn⟩,b⟩
   ·obtain⟨w,i,f⟩:=b;unfold ki at i;split at i
    ·rename_i c;cases i;simp only[l1,cf];exact⟨_,⟨c,bn⟩,f⟩
    grind
   ·obtain⟨w,i,f⟩:=b;unfold iC at i;split at i
    ·rename_i c;cases i;simp only[l1,cf];exact⟨_,⟨c,bn⟩,f⟩
    grind
   ·obtain⟨w,i,f⟩:=b;unfold h2 at i;split at i
    ·rename_i c;cases i;exact⟨_,⟨c,bn⟩,f⟩
    grind
   ·obtain⟨w,i,f⟩:=b;unfold eJ at i;split at i
    ·rename_i c;cases i;exact⟨_,⟨c,bn⟩,f⟩
    grind
   ·simp only[l1,cf];exact⟨_,⟨trivial,bn⟩,b⟩
   ·simp only[l1,cf];exact⟨_,⟨trivial,bn⟩,b⟩
   ·simp only[l1,cf];exact⟨_,⟨trivial,bn⟩,b⟩
   ·simp only[l1,cf];exact⟨_,⟨trivial,bn⟩,b⟩
   exact b.elim
  split at b
  ·obtain⟨w,i,f⟩:=b;unfold h2 at i;split at i
   ·rename_i c;cases i;exact⟨_,⟨c,bn⟩,f⟩
   grind
  ·obtain⟨w,i,f⟩:=b;unfold eJ at i;split at i
   ·rename_i c;cases i;exact⟨_,⟨c,bn⟩,f⟩
   grind
  exact b.elim
 ·rename_i r m;simp only[g2];split at b
  case h_2=>exact b.elim
  rename_i q m h;rw[h];exact⟨_,bn,b⟩
 ·rename_i U x m;simp only[g2,BO];split at b
  case h_2=>exact b.elim
  rename_i T q a4 m aq o h;rw[aq,o,h];exact⟨_,bn,b⟩
 ·rename_i m;simp only[g2,ve];split at b
  case h_2=>exact b.elim
  rename_i E g m h;rw[h];obtain⟨j,rfl,f⟩:=b;exact⟨j,bn,f⟩
 ·rename_i r m S;simp only[g2,u0];split at b
  case h_2=>exact b.elim
  rename_i k q S aq o;rw[aq,o];simp only;split at b
  ·rename_i E g D h;rw[h];simp only;cases d:a7 k g with
   |false=>rw[d] at b;exact b.elim
   |true=>
   rw[d] at b;obtain⟨j,c,f⟩:=b;exact⟨j,c,f⟩
  ·rename_i id B h;rw[h];simp only;split at b
   case h_2=>exact b.elim
   rename_i t n;rw[n];simp only;split at b
   case h_2=>exact b.elim
   rename_i g p;rw[p];simp only;cases d:a7 k g with
   |false=>rw[d] at b;exact b.elim
   |true=>
   rw[d] at b;obtain⟨j,c,f⟩:=b;obtain⟨D,N,c⟩:=eO.1 c;obtain⟨u,v⟩:=Nf c;exact⟨(D,j),⟨iL N,u,v⟩,f⟩
  ·rename_i id ap am h;rw[h];simp only;split at b
   case h_2=>exact b.elim
   rename_i t n;obtain⟨bx,m⟩:=t;rw[n];simp only at b|-;split at b
   case h_2=>exact b.elim
   rename_i g;simp only[fm];cases d:a7 k g with
   |false=>rw[d] at b;exact b.elim
   |true=>
   rw[d] at b;obtain⟨q,an,f⟩:=b;obtain⟨u,v⟩:=Nf an;exact⟨(m,q),⟨⟨bn,bn⟩,u,v⟩,f⟩
  exact b.elim
 ·rename_i r m;simp only[g2,u4];split at b
  case h_2=>exact b.elim
  rename_i k aq;rw[aq];simp only;split at b
  ·rename_i id B h;rw[h];simp only;split at b
   case h_2=>exact b.elim
   rename_i t n;rw[n];simp only;split at b
   case h_2=>exact b.elim
   rename_i g p;rw[p];simp only[vp];cases d:(a7 k g&&g.pure) with
   |false=>rw[d] at b;exact b.elim
   |true=>
   rw[d] at b;simp only[cC] at d;rw[d.1,d.2];obtain⟨j,c,f⟩:=b;exact⟨j,iL c,f⟩
  ·rename_i id B h;rw[h];simp only;split at b
   case h_2=>exact b.elim
   rename_i t n;rw[n];simp only;split at b
   case h_2=>exact b.elim
   rename_i g p;rw[p];simp only[vp];cases d:(a7 k g&&g.pure) with
   |false=>rw[d] at b;exact b.elim
   |true=>
   rw[d] at b;simp only[cC] at d;rw[d.1,d.2];obtain⟨j,c,f⟩:=b;exact⟨j,iL c,f⟩
  ·rename_i E g m h;rw[h];cases d:a7 k g with
   |false=>rw[d] at b;exact b.elim
   |true=>
   rw[d] at b;obtain⟨j,rfl,f⟩:=b;simp only[d,bG];exact f
  exact b.elim
 ·rename_i r m O;simp only[g2,uU];split at b
  case h_2=>exact b.elim
  rename_i k E g m aq h;rw[aq,h];cases d:(a7 k g&&(fH g O).isSome) with
  |false=>rw[d] at b;exact b.elim
  |true=>
  rw[d] at b;simp only[cC] at d;obtain⟨j,rfl,f⟩:=b;obtain⟨bs,R⟩:=MM (y:=j) d.2;simp only[R] at f;simp only[d.1,bG,R];exact f
 ·rename_i r m ap am;simp only[g2,vy];split at b
  case h_2=>exact b.elim
  rename_i k aq;rw[aq];simp only;split at b
  ·rename_i E g D h;rw[h];simp only;cases d:a7 k g with
   |false=>rw[d] at b;exact b.elim
   |true=>
   rw[d] at b;obtain⟨j,c,f⟩:=b;obtain⟨A,L,c⟩:=eO.1 c;obtain⟨x,J,c⟩:=eO.1 c;obtain⟨av,M,rfl⟩:=fD.1 c;obtain⟨u,v⟩:=Nz M;exact⟨(A,x),⟨BI L,BI J,u,v⟩,f⟩
  ·rename_i id B h;rw[h];simp only;split at b
   case h_2=>exact b.elim
   rename_i t n;rw[n];simp only;split at b
   case h_2=>exact b.elim
   rename_i g p;rw[p];simp only;cases d:a7 k g with
   |false=>rw[d] at b;exact b.elim
   |true=>
   rw[d] at b;obtain⟨j,c,f⟩:=b;obtain⟨D,N,c⟩:=eO.1 c;obtain⟨A,L,c⟩:=eO.1 c;obtain⟨x,J,c⟩:=eO.1 c;obtain⟨av,M,c⟩:=eO.1 c;obtain⟨fw,a3,rfl⟩:=fD.1 c;obtain⟨u,v⟩:=Nz M;exact⟨(D,A,x),⟨iL N,BI L,BI J,u,v⟩,f⟩
  exact b.elim
 ·rename_i r A G;simp only[g2,u7];split at b
  case h_2=>exact b.elim
  rename_i k g aq o s;rw[aq,o,s];simp only;split at b
  case h_2=>exact b.elim
  rename_i w q A T G z C H;rw[z,C,H];simp only;cases d:(a7 k g&&b2 g.size 2000) with
  |false=>rw[d] at b;exact b.elim
  |true=>
  rw[d] at b;obtain⟨j,c,f⟩:=b;unfold fY at c;split at c
  ·rename_i I;cases c;exact⟨(A.toNat,G.toNat),⟨(amn I.1).symm,(amn (Int.le_trans I.1 I.2.1)).symm,aa,aa⟩,f⟩
  grind
 ·rename_i r m S;simp only[g2,Fk];split at b
  ·rename_i U q O aq o s;rw[aq,o,s];obtain⟨F,d,f⟩:=b;exact⟨F,d,f⟩
  ·rename_i U q O aq o s;rw[aq,o,s];obtain⟨F,d,f⟩:=b;exact⟨F,d,f⟩
  exact b.elim
 ·rename_i r m q bl;simp only[g2,u5];split at b
  case h_2=>exact b.elim
  rename_i k id B q aq o s;rw[aq,o,s];simp only;split at b
  case h_2=>exact b.elim
  rename_i t n;rw[n];simp only;split at b
  case h_2=>exact b.elim
  rename_i g p;rw[p];simp only;split at b
  case h_2=>exact b.elim
  rename_i w i;rw[i];simp only;cases d:a7 k g with
  |false=>rw[d] at b;exact b.elim
  |true=>
  rw[d] at b;obtain⟨j,c,f⟩:=b;exact⟨j,iL c,f⟩
 ·rename_i G;simp only[g2];split at b
  ·rename_i m r aq o s;rw[aq,o,s];simp only;split at b
   ·rename_i k id B z C;rw[z,C];simp only[u3,z];split at b
    case h_2=>exact b.elim
    rename_i t n;rw[n];simp only;split at b
    case h_2=>exact b.elim
    rename_i g p;rw[p];obtain⟨j,c,f⟩:=b;exact⟨j,iL c,f⟩
   ·rename_i id B z C;rw[z,C];simp only[vb];split at b
    case h_2=>exact b.elim
    rename_i k t H n;rw[H,n];simp only;split at b
    case h_2=>exact b.elim
    rename_i g p;rw[p];obtain⟨j,c,f⟩:=b;exact⟨j,iL c,f⟩
   exact b.elim
  exact b.elim
 exact b.elim
def jk {e:Type} (c d:bm e) (a b:X):bm e:=c.take a++(d.take (b-a)++c.drop (a+min d.length (b-a)))
end
section
def z5:ak->bA
 |.val _ _=>bp
 |_=>bq
def Ib:ak->bA
 |.val _ _=>bp
 |.eA _ a=>a.all z5
 |_=>bq
theorem Ic (b:Ib d=bp):∀id∈d.ids,False:=by
 intro id c;cases d with
 |val f e=>grind [bT]
 |eA g a=>
  have b:a.all z5=bp:=b;have:∀a:bm ak,a.all z5=bp->∀id∈aiX a,False:=by
   intro a
   induction a with
   |nil=>grind [aiX]
   |cons d a h=>
    intro b id c;simp only[rX,cC] at b;simp only[aiX,hX] at c;rcases c with c|c
    ·cases d with
     |val f e=>grind [bT]
     |_=>cases b.1
    grind
  exact this a b id c
 |_=>cases b
def pu (C:eX) (c:bm (X×ak)):Prop:=
 (∀a,C.I0 a\/C.B a->a<C.w0.heap.size/\¬C.F0 a)/\
 ∀b∈c,b.1∈C.pin/\Ib b.2=bp/\cN (bb C.I0 C.B) C.w0 [] (λ_=>[]) (λ_=>[]) b.2 (C.vs b.1)
section
variable {E:fB} {C:eX}
def pu.nil (b:∀a,C.I0 a\/C.B a->a<C.w0.heap.size/\¬C.F0 a):pu C []:=⟨b,λc b=>by cases b⟩
theorem VE (c b:bm (X×ak)) (a:X):gt (c++b) a=match ar c a with|some d=>d|none=>gt b a:=by grind [kC,ar,gt]
theorem Aa {e:Type}:∀{c:bm (X×e)} {b:X} {d:e},ar c b=Y d->(b,d)∈c
 |[],_,_,a=>by cases a
 |(f,v0)::c,b,d,a=>by
  rw[dh] at a;split at a
  ·grind
  exact hY _ (Aa a)
def gJ.kg (f:pu C T) {j:ahQ} (n:gJ C i j v):gJ C ⟨T++i.g,i.h⟩ j v:=by
 obtain⟨k,w,m,b⟩:=n;refine⟨k,w,m,{b with tmp:=λc=>?_}⟩;show cN _ _ _ _ _ (gt (T++i.g) c) _;rw[VE];split
 ·rename_i l s;obtain⟨o,p,d⟩:=f.2 _ (Aa s);have d:cN (bb C.I0 C.B) C.w0 [] (λ_=>[]) (λ_=>[]) l (C.vs c):=d;rw[b.pin c o];refine d.s3 (λt a e=>?_) (λid r=>(Ic p id r).elim);have q:C.I0 a\/C.B a:=mX e;obtain⟨aw,u⟩:=f.1 a q;refine⟨?_,alm (b.frame a aw u)⟩;cases t
  ·exact b.i0 a e
  exact e.imp (b.i0 a) id
 exact b.tmp c
def J.kg {d:bm (X×ak)} (k:pu C d) {c:Code} {a:aO} {b:b5->aO->Prop} (f:J E C c ⟨d++a.g,a.h⟩ b):J E C c a b:=
 λe l i j=>f e l (i.kg k) j
def sP (a:bm (X×ak)):ahY->bv (bm (X×ak))
 |[]=>Y []
 |k::c=>match gt a k with
  |.val g f=>(sP a c).map λb=>(k,.val g f)::b
  |.eA e d=>bif d.all z5 then(sP a c).map λb=>(k,.eA e d)::b else bo
  |_=>bo
theorem H5 {h:bm (X×ak)}:∀{g:ahY} {d:bm (X×ak)},sP h g=Y d->∀b∈d,b.1∈g/\Ib b.2=bp/\gt h b.1=b.2
 |[],d,c,b,a=>by cases c;cases a
 |k::g,d,c,b,a=>by
  simp only[sP] at c;split at c
  ·rename_i q p f;obtain⟨n,e,rfl⟩:=fD.1 c;rcases fV.1 a with rfl|a
   ·exact⟨nb ..,bn,f⟩
   obtain⟨j,l⟩:=H5 e b a;grind
  ·rename_i o m f;cases i:m.all z5 with
   |false=>grind
   |true=>
   rw[i] at c;obtain⟨n,e,rfl⟩:=fD.1 c;rcases fV.1 a with rfl|a
   ·exact⟨nb ..,i,f⟩
   obtain⟨j,l⟩:=H5 e b a;grind
  grind
theorem J.keep {K:Code} {H:bm (X×ak)} (r:pu C T) (ap:sP i.g f=Y H) (l:∀k:eX,k.n=C.n->k.pin=f++C.pin->pu k (H++T)->(∀t,tU C t->tU k t)->(lm E C.I0 C.w0->lm E k.I0 k.w0)->J E k K i z):J E C K i z:=by
 rintro u I ⟨y,M,A,b⟩ ad
 let k:eX:={I0:=y,B:=C.B,F0:=λa=>∃id d,ar i.h id=Y d/\a∈A id,w0:=I,n:=C.n,pin:=f++C.pin,vs:=λq=>u.tmps.getD q bW}
 have U:cM k i u.tmps I y M A:=
  {n:=b.n,i0:=λ_ l=>l,i1:=λ_ l=>.inl l,ib:=b.ib,tree:=λid d j=>⟨(b.tree id d j).1,(b.tree id d j).2.1,λa c=>⟨((b.tree id d j).2.2 a c).1,((b.tree id d j).2.2 a c).2.1,((b.tree id d j).2.2 a c).2.2.1,.inr ⟨id,d,j,c⟩⟩⟩,dis:=b.dis,tmp:=b.tmp,frame:=λ_ _ _=>rfl,evo:=λ_ _=>.refl _ _,size:=bc _,os:=rfl,tape:=rfl,output:=rfl,pin:=λq _=>rfl}
 have an:pu k (H++T):=by
  refine⟨λa c=>⟨b.ib a c,?_⟩,λw p=>?_⟩
  ·rintro⟨id,d,j,V⟩;obtain⟨aw,x,_⟩:=(b.tree id d j).2.2 a V;grind
  rcases hX.1 p with p|p
  ·obtain⟨m,o,D⟩:=H5 ap w p;refine⟨hX.2 (.inl m),o,?_⟩;have:=b.tmp w.1;rw[D] at this;exact this.s3 (λL a s=>⟨s,cq _ _⟩) (λid F=>(Ic o id F).elim)
  obtain⟨m,o,D⟩:=r.2 w p;refine⟨hX.2 (.inr m),o,?_⟩;show cN _ _ _ _ _ _ (u.tmps.getD w.1 bW);rw[b.pin _ m];refine D.s3 (λL a s=>?_) (λid F=>(Ic o id F).elim);obtain⟨aw,x⟩:=r.1 a (mX s);refine⟨?_,alm (b.frame a aw x)⟩;cases L
  ·exact b.i0 a s
  exact s.imp (b.i0 a) id
 have a0:∀t,tU C t->tU k t:=by
  rintro(_|⟨q,ds,d1⟩) av
  ·trivial
  obtain⟨N,O,a,a3,c1,ci,P,co,d2,cs⟩:=av;refine⟨lq _ N,λv G=>lq _ (O v G),a,a3,c1,(b.pin q N).trans ci,i6 P b.size,?_,?_,?_⟩
  ·rintro⟨id,d,j,c⟩;rcases((b.tree id d j).2.2 a c).2.2.2 with m|m
   ·omega
   grind
  ·have c:=b.frame a P co;grind [block,ai9]
  rw[cs];exact ia λv G=>(b.pin v (O v G)).symm
 refine wp_mono (l k bn rfl an a0 (λS=>b.glob r.1 S) u I ⟨y,M,A,U⟩ ad) ?_;rintro dl c2 d3 ⟨cv,p,⟨Q,ce,R,e⟩,am⟩;have d0:∀a,k.F0 a->C.w0.heap.size<=a\/C.F0 a:=(by rintro a ⟨id,d,j,c⟩;exact((b.tree id d j).2.2 a c).2.2.2);refine⟨cv,p,⟨Q,ce,R,?_⟩,am⟩;refine{n:=e.n,i0:=λa c=>e.i0 a (b.i0 a c),i1:=λa c=>?_,ib:=e.ib,tree:=λid d j=>?_,dis:=e.dis,tmp:=e.tmp,frame:=λa m o=>?_,evo:=λa c=>(b.evo a c).trans (e.evo a (i6 c b.size)),size:=eD b.size e.size,os:=e.os.trans b.os,tape:=e.tape.trans b.tape,output:=e.output.trans b.output,pin:=λq r=>?_}
 ·rcases e.i1 a c with l|l|l
  ·exact b.i1 a l
  ·exact .inr (.inl (eD b.size l))
  grind
 ·obtain⟨aw,x,a4⟩:=e.tree id d j;refine⟨aw,x,λa c=>?_⟩;obtain⟨bl,bs,bx,aJ⟩:=a4 a c;refine⟨bl,bs,bx,?_⟩;rcases aJ with l|l
  ·exact .inl (eD b.size l)
  grind
 ·refine(e.frame a (i6 m b.size) ?_).trans (b.frame a m o);grind
 rw[e.pin q (hX.2 (.inr r))];exact b.pin q r
end
end
structure cI where
 d:bv (X×ak)
 S:ahY
 keep:bm (X×bm aZ)
 put:bm (X×aF)
variable{q:cI}
def nF (a:ahY) (c:bm (X×bm aZ)) (b:bm (X×ak)):bm (X×ak):=match a with
 |[]=>b
 |_=>aij a c b
def q5 (a:ahY) (b:bm (X×aF)):bm (X×aF):=match a with
 |[]=>b
 |_=>del a b
def cI.app (a:cI) (b:aO):aO:=⟨match a.d with
 |some c=>c::nF a.S a.keep b.g
 |none=>nF a.S a.keep b.g,a.put++q5 a.S b.h⟩
theorem Wa (b:bm (X×bm aZ)) (a:ak):fI [] b a=a:=by
 have c:∀a,fc [] b a=a:=λa=>(by have:(a.ids.any λd=>eP d [])=bq:=(by grind [aln,eP]);simp only[fc,aif,this,alo,bP]);cases a with
 |fe e=>grind [aii,alp,fI]
 |_=>exact c _
theorem Wf (c:bm (X×bm aZ)):∀b:bm (X×ak),aij [] c b=b
 |[]=>rfl
 |(k,a)::b=>by simp_all [ie,Wa,aij]
theorem TW:∀a:bm (X×aF),del [] a=a
 |[]=>rfl
 |x::a=>by simp_all [nY,au,eP,del]
theorem sQ (a:ahY) (c:bm (X×bm aZ)) (b:bm (X×ak)):nF a c b=aij a c b:=by
 cases a
 ·exact(Wf c b).symm
 rfl
theorem w7 (a:ahY) (b:bm (X×aF)):q5 a b=del a b:=by
 cases a
 ·exact(TW b).symm
 rfl
def rL {k:Type} (tt:bm (bF×ah)) (f:bm (X×aF)) (m:bF) (q v:ak) (e:cI->bv k):bv k:=
 match rD f q with
 |none=>bo
 |some (
  id,p)=>match ar f id,ar tt m with
  |some a,Y o=>match fm a.1 p with
   |none=>bo
   |some b=>bif a7 o b then match v with
    |.ref c g=>match ar f c with
     |some l=>bif bH id c then bo else(h0 l.1 l.2 g b).bind λh=>(mD a.1 a.2 p b h).bind λd=>e ⟨bo,[id,c],[(id,p)],[(id,⟨a.1,d⟩)]⟩
     |none=>bo
    |.app c g i j n=>match hZ (τ:=.osl i) b j with
     |some _=>bif bH c id&&ma g p then(h0 a.1 a.2 p (.osl i)).bind λr=>(mD a.1 a.2 p (.osl i) (r++j)).bind λd=>e ⟨bo,id::n,[(id,p)],[(id,⟨a.1,d⟩)]⟩ else bo
     |none=>bo
    |v=>match coe b v with
     |some h=>(mD a.1 a.2 p b h).bind λd=>e ⟨bo,[id],[(id,p)],[(id,⟨a.1,d⟩)]⟩
     |none=>bo
   else bo
  |_,_=>bo
theorem ade {q:b} {n:cI->bv b} {tt:bm (bF×ah)} (a:rL tt i.h c t d n=Y q) (k:∀o,n o=Y q->u (o.app i)):(Fj tt i c t d).K u:=by
 unfold rL at a;unfold Fj;split at a
 ·cases a
 rename_i id A v;rw[v];simp only;split at a
 case h_2=>cases a
 rename_i F B w r;obtain⟨O,M⟩:=F;rw[w,r];simp only at a|-;split at a
 ·cases a
 rename_i D z;rw[z];simp only;cases s:a7 B D with
 |false=>grind
 |true=>
 rw[s] at a;simp only[bG] at a|-;split at a
 ·rename_i l p;split at a
  case h_2=>cases a
  rename_i E x;obtain⟨P,J⟩:=E;cases e:bH id l with
  |true=>grind
  |false=>
  rw[e] at a;obtain⟨m,f,a⟩:=eO.1 a;obtain⟨j,g,a⟩:=eO.1 a;simp only[x,e,bP];exact⟨(m,j),⟨iL f,m3 g⟩,k _ a⟩
 ·rename_i l p N L I;split at a
  case h_2=>cases a
  rename_i m f;cases ka f;cases e:(bH l id&&ma p A) with
  |false=>grind
  |true=>
  rw[e] at a;simp only[cC] at e;obtain⟨C,y,a⟩:=eO.1 a;obtain⟨j,g,a⟩:=eO.1 a;simp only[aja];exact⟨(C,j),⟨fv e.1,ma.ok e.2,iL y,m3 g⟩,k _ a⟩
 rename_i d G H;split at a
 case h_2=>cases a
 rename_i m f;obtain⟨j,g,a⟩:=eO.1 a;split
 ·grind
 ·grind
 rw[f];exact⟨j,m3 g,k _ a⟩
def lj (e:bm (X×aF)) (a:ah) (i:ak):bv (bm a.den):=
 match i with
 |.val (.a2 _ h) d=>hZ (τ:=.osl h) (.osl a) d
 |.dg (.slice bo 0 0)=>Y []
 |.ref id c=>match ar e id with
  |some b=>bif a.pure then h0 b.1 b.2 c (.osl a) else bo
  |none=>bo
 |.view id c g f=>match ar e id with
  |some b=>bif a.pure then(h0 b.1 b.2 c (.osl a)).bind λd=>Y ((d.take f).drop g) else bo
  |none=>bo
 |_=>bo
def l0.FN {c:ah} (e:l0 c) (b:bm c.den):Prop:=
 match e with
 |.e4 f=>f=b
 |.part _ g d=>∃a,g a/\d a=b
 |.bad=>b6
theorem A9 {f:bm k.den} (a:lj e k d=Y f):(rQ e k d).FN f:=by
 unfold lj at a;unfold rQ;split at a
 ·rename_i p q h;cases ka a;simp only[aja];rfl
 ·cases a;rfl
 ·rename_i id j;split at a
  case h_2=>cases a
  rename_i g c;obtain⟨m,l⟩:=g;simp only[c];cases b:k.pure with
  |false=>grind
  |true=>rw[b] at a;exact⟨f,iL a,bn⟩
 ·rename_i id j o n;split at a
  case h_2=>cases a
  rename_i g c;obtain⟨m,l⟩:=g;simp only[c];cases b:k.pure with
  |false=>grind
  |true=>
   rw[b] at a;obtain⟨h,i,a⟩:=eO.1 a;cases a;exact⟨h,iL i,bn⟩
 grind
def l0.FN.to {d:ah} {c:l0 d} {a:bm d.den} (b:c.FN a) {g:X->Prop} {f:bm d.den->aO} {e:aO->Prop} (h:g a.length) (i:e (f a)):(c.to g f).K e:=by
 cases c with
 |e4 l=>obtain rfl:l=a:=b;exact⟨(),h,i⟩
 |part n o m=>obtain⟨k,j,rfl⟩:=b;exact⟨k,⟨j,h⟩,i⟩
 |bad=>exact b.elim
def oT {n:Type} (tt:bm (bF×ah)) (p:bm (X×ah)) (d:bm (X×aF)) (b:X) (o:bF) (q g:ak) (f:cI->bv n):bv n:=
 match gX tt o with
 |none=>bo
 |some i=>
  match q with
  |.ref id []=>match ar d id with
   |some ⟨.osl a,e⟩=>bif a7 i a&&b2 a.size 1300 then
    match a.pure with
    |true=>(lj d a g).bind λc=>(cD (e.length+c.length)).bind λ_=>f ⟨Y (b,.ref b []),[id,b],[],[(b,⟨.osl a,e++c⟩)]⟩
    |false=>match g with
     |.ref k []=>match ar d k with
      |some r=>match hZ (.osl a) r.2 with
       |some c=>bif bH id k then bo else(cD (e.length+aia (α:=a.den) c)).bind λ_=>f ⟨Y (b,.ref b []),[id,k,b],[],[(b,⟨.osl a,List.append (α:=a.den) e c⟩)]⟩
       |none=>bo
      |none=>bo
     |_=>bo
    else bo
   |_=>bo
  |.ref id h=>match ar d id,ar d b with
   |some j,bo=>match fm j.1 h with
    |some (.osl a)=>bif a7 i a&&b2 a.size 1300&&a.kF then
     (h0 j.1 j.2 h (.osl a)).bind λe=>(lj d a g).bind λc=>(cD (aia (α:=a.den) e+c.length)).bind λ_=>
      f ⟨Y (b,.app id h a c [b]),[id],[(id,h),(id,[])],[(b,⟨.eL,()⟩),(id,j)]⟩
     else bo
    |_=>bo
   |_,_=>bo
  |.view id [] m l=>match ar d id with
   |some ⟨.osl a,e⟩=>bif a7 i a&&b2 a.size 1300 then
    (lj d a g).bind λc=>(cD (aia (α:=a.den) ((e.take l).drop m)+c.length)).bind λ_=>f ⟨Y (b,.ref b []),[id,b],[],[(b,⟨.osl a,(e.take l).drop m++c⟩)]⟩
    else bo
   |_=>bo
  |.dg (.slice bo 0 0)=>match ar p b with
   |some (.osl a)=>bif a7 i a&&b2 a.size 1300 then
    (lj d a g).bind λc=>(cD c.length).bind λ_=>f ⟨Y (b,.ref b []),[b],[],[(b,⟨.osl a,c⟩)]⟩
    else bo
   |_=>bo
  |_=>bo
theorem SK {A:b} {w:cI->bv b} {tt:bm (bF×ah)} (e:oT tt l i.h a c d t w=Y A) (m:∀x,w x=Y A->u (x.app i)):(Bz tt l i a c d t).K u:=by
 unfold oT at e;unfold Bz;split at e
 ·cases e
 rename_i s F;rw[F];simp only;split at e
 ·rename_i id;simp only;split at e
  case h_2=>cases e
  rename_i j v n;rw[n];simp only;cases k:(a7 s j&&b2 j.size 1300) with
  |false=>grind
  |true=>
  rw[k] at e;simp only[bG] at e|-;split at e
  ·rename_i q;rw[q];obtain⟨p,f,e⟩:=eO.1 e;obtain⟨_,g,e⟩:=eO.1 e;exact(A9 f).to (xw g) (m _ e)
  rename_i q;rw[q];split at e
  case h_2=>cases e
  rename_i H;split at e
  case h_2=>cases e
  rename_i M E;obtain⟨V,R⟩:=M;split at e
  case h_2=>cases e
  rename_i p f;cases ka f;cases y:bH id H with
  |true=>grind
  |false=>
  rw[y] at e;obtain⟨_,g,e⟩:=eO.1 e;simp only[E,aja,y,bP];exact⟨(),xw g,m _ e⟩
 ·rename_i id z q;split at e
  case h_2=>cases e
  rename_i L n D;obtain⟨U,S⟩:=L;simp only at e;split at e
  case h_2=>cases e
  rename_i j G;cases k:(a7 s j&&b2 j.size 1300&&j.kF) with
  |false=>grind
  |true=>
  rw[k] at e;obtain⟨v,r,e⟩:=eO.1 e;obtain⟨p,f,e⟩:=eO.1 e;obtain⟨_,g,e⟩:=eO.1 e;have g:=xw g;have f:=A9 f;have r:=iL r;cases z with
  |nil=>grind
  |cons Q z=>
  simp only[n,D,G,k,bG];split
  ·rename_i J o;rw[o] at f;obtain rfl:J=p:=f;exact⟨v,⟨r,g⟩,m _ e⟩
  ·rename_i T ad N o;rw[o] at f;obtain⟨I,B,rfl⟩:=f;exact⟨(v,I),⟨r,B,g⟩,m _ e⟩
  rename_i o;rw[o] at f;exact f.elim
 ·rename_i id P O;simp only;split at e
  case h_2=>cases e
  rename_i j v n;rw[n];simp only;cases k:(a7 s j&&b2 j.size 1300) with
  |false=>grind
  |true=>
  rw[k] at e;simp only[bG] at e|-;obtain⟨p,f,e⟩:=eO.1 e;obtain⟨_,g,e⟩:=eO.1 e;exact(A9 f).to (xw g) (m _ e)
 ·simp only;split at e
  case h_2=>cases e
  rename_i j C;rw[C];simp only;cases k:(a7 s j&&b2 j.size 1300) with
  |false=>grind
  |true=>
  rw[k] at e;simp only[bG] at e|-;obtain⟨p,f,e⟩:=eO.1 e;obtain⟨_,g,e⟩:=eO.1 e;exact(A9 f).to (xw g) (m _ e)
 grind
def pN (d:bm (X×ah)) (c:bm (X×aF)) (a:X) (h:ak):bv cI:=
 match h with
 |.ref id []=>match ar c id with
  |some b=>Y ⟨Y (a,.ref a []),[id,a],[],[(a,b)]⟩
  |none=>bo
 |.ref id g=>bif bH id a then bo else Y ⟨Y (a,.ref id g),[a],[],[]⟩
 |.view id [] f e=>match ar c id with
  |some ⟨.osl b,i⟩=>Y ⟨Y (a,.ref a []),[id,a],[],[(a,⟨.osl b,(i.take e).drop f⟩)]⟩
  |_=>bo
 |.dg (.slice bo 0 0)=>match ar d a with
  |some (.osl b)=>Y ⟨Y (a,.ref a []),[a],[],[(a,⟨.osl b,[]⟩)]⟩
  |_=>bo
 |_=>bo
theorem SW (b:pN l i.h a d=Y q) (e:u (q.app i)):(BB l i a d).K u:=by
 unfold pN at b;unfold BB;split at b
 ·split at b
  ·rename_i j c;cases b;simp only[c];exact e
  grind
 ·rename_i id g k;cases f:bH id a with
  |true=>grind
  |false=>
  rw[f] at b;cases b;cases g with
  |nil=>grind
  |cons m g=>simp only[f,bP];exact e
 ·split at b
  ·rename_i j n c;cases b;simp only[c];exact e
  grind
 ·split at b
  ·rename_i j c;cases b;simp only[c];exact e
  grind
 grind
section
section
variable {E:fB} {C:eX} {st:aO} {a:Act} {w w':bD} {I:X->Prop} {rt:X->ahS} {fp:X->ahY} {o:bR} {Q:aO->Prop}
def eZ.own {S:ahY} {t:aF} {cs:ahS} {f:ahY} {v:Value} {next:Act->bD->Prop} {u:b5->Act->bD->Prop} (A:o.dst=Y m) (F:C.ok m) (l:cM C st a.tmps w I rt fp) (J:∀r k w',Q r->k.defers=a.defers->gJ C r k.tmps w'->next k w') (D:m∈S\/ar st.h m=bo) (M:(bL a.eval o).run E.P w=.ok (.value v) w') (c:hj w w') (N:v=cX t.1 cs) (L:aR (bb I C.B) w' t.1 cs t.2 f) (G:f.Nodup) (i:∀b∈f,(w.heap.size<=b/\b<w'.heap.size)\/∃q∈S,∃R,ar st.h q=Y R/\b∈fp q) (K:Q ⟨(m,.ref m [])::aij S [] st.g,(m,t)::del S st.h⟩):o.wp E.P a w next u:=by
 have j:=l.eB (ni.one (st:=st) (C:=C) (rt:=rt) (w':=w') (I':=I) (S:=S) (d:=m) (t:=t) (cs:=cs) (f:=f) D c.size c.os c.tape c.output (λb i _=>c.heap b i) (λb i=>(alm (c.heap b i)).2) (λ_ e=>e) (λ_ e=>.inl e) L G (λb z=>by
  rcases i b z with⟨x,y⟩|⟨p,H,s,j,n⟩
  ·exact⟨λe=>by have:=l.ib b (.inl e);omega,y,.inl x⟩
  obtain⟨aw,T,O,U⟩:=(l.tree p s j).2.2 b n;exact⟨aw,i6 O c.size,.inr ⟨p,H,s,j,n⟩⟩))
 unfold aic;rw[M];show next (a.put o.dst v) w'
 rw[A];refine J _ _ _ K bn ⟨_,_,_,j.put F (av:=.ref m []) ?_⟩;rw[N];refine .ref (t:=t) (loc:=bo) (by rw[kC,dh,au bn];rfl) ?_;rw[En];exact ajx
def xM (e:bm (X×aF)) (a:ah):ak->bv (aF×ahY)
 |.val d b=>bif a7 a d then Y (⟨d,b⟩,[]) else bo
 |.dg f=>match iK a f.cells.toList with
  |some b=>Y (⟨a,b⟩,[])
  |none=>bo
 |.ref id []=>match ar e id with
  |some c=>bif a7 a c.1 then Y (c,[id]) else bo
  |none=>bo
 |_=>bo
theorem PB (l:∀id t,ar e id=Y t->aR U w t.1 (rt id) t.2 (fp id)) {a:ah} (i:fj p a c) (h:cN U w e rt fp d S) {t:aF} {ids:ahY} (b:xM e a d=Y (t,ids)):aR U w t.1 S.cells.toList t.2 (ids.map fp).flatten/\t.1.size=a.size/\∀id∈ids,∃o,ar e id=Y o:=by
 unfold xM at b;split at b
 ·rename_i r q;cases f:a7 a r with
  |false=>grind
  |true=>
   rw[f] at b;cases b;cases h with|val g=>
   rw[ow (i.lay f) g.len g.one];grind [alq]
 ·rename_i u;split at b
  ·rename_i q s;cases b;cases h;grind [pR]
  grind
 ·rename_i id;split at b
  ·rename_i n j;cases f:a7 a n.1 with
   |false=>grind
   |true=>
    rw[f] at b;cases b;cases h with|ref k m=>
    rw[j] at k;cases k;obtain⟨rfl,rfl,rfl⟩:=ait.1 m;have g:=l id _ j;rw[ow (i.lay f) g.len g.one];grind [ah4,alq]
  grind
 grind
def mY (e:bm (X×aF)) (d:bM->ak) (g:bm (X×bM)):ah->X->bv (aF×ahY)
 |.pr a h,f=>
  match(match mb g f with
   |none=>match mf a with
    |some i=>Y ((⟨a,i⟩:aF),([]:ahY))
    |none=>bo
   |some b=>xM e a (d b)),mY e d g h (f+1) with
  |some b,Y c=>Y (⟨.pr b.1.1 c.1.1,(b.1.2,c.1.2)⟩,b.2++c.2)
  |_,_=>bo
 |.nil,_=>Y (⟨.nil,()⟩,[])
 |_,_=>bo
theorem N6 {p:b0} {g:eC->X->Prop} {b:bm (X×aF)} (z:∀id t,ar b id=Y t->aR g w t.1 (rt id) t.2 (fp id)) {m:bM->ak} {h:bM->Value} (y:∀c,cN g w b rt fp (m c) (h c)) {parts:bm (X×bM)} {cells:ahS}:∀{u:ah} {n:X} {r:bm aio} {off:X} {zs:ahS} {t:aF} {ids:ahY},iD p u r off zs->mY b m parts u n=Y (t,ids)->cells.length=off+u.size->(∀d k e,fH u d=Y (k,e)->(∀c,mb parts (n+d)=Y c->(h c).cells.size=e.size/\(cells.drop (off+fA u d)).take e.size=(h c).cells.toList)/\(mb parts (n+d)=bo->(cells.drop (off+fA u d)).take e.size=(zs.drop (fA u d)).take e.size))->aR g w t.1 (cells.drop off) t.2 (ids.map fp).flatten/\t.1.size=u.size/\∀id∈ids,∃u,ar b id=Y u
 |.pr a q,n,E::O,off,zs,t,ids,o,f,A,i=>by
  simp only[mY] at f;split at f
  case h_2=>cases f
  rename_i c l j C;cases f;obtain⟨F,s,G,⟨K,R,aw,M,N⟩,v⟩:=o;have x:=i 0 _ a bn;simp only[nc,fA,lV] at x;have H:aR g w c.1.1 ((cells.drop off).take a.size) c.1.2 (c.2.map fp).flatten/\c.1.1.size=a.size/\∀id∈c.2,∃u,ar b id=Y u:=by
   split at j
   ·rename_i J;split at j
    ·rename_i S D;cases j;obtain⟨L,T,P,Q,_,aJ⟩:=vK s D;grind
    grind
   grind [PB]
  have I:=N6 z y (parts:=parts) (cells:=cells) (u:=q) (n:=n+1) (off:=off+a.size) (zs:=zs.drop a.size) (t:=l.1) (ids:=l.2) v C (by grind [aiq]) (by
   intro d k e B;have:=i (d+1) (.snd::k) e (by simp[fH,B]);grind [ajM,fA])
  refine⟨⟨(c.2.map fp).flatten,(l.2.map fp).flatten,ac,?_,?_⟩,by grind [aiq],?_⟩
  ·grind
  ·simp_all
  grind
 |.nil,n,[],off,zs,t,ids,o,f,A,i=>by cases f;exact⟨⟨bn,by grind [List.drop_eq_nil_iff,aiq]⟩,bn,ac⟩
 |.pr _ _,_,[],_,_,_,_,b,_,_,_=>b.elim
 |.nil,_,_::_,_,_,_,_,b,_,_,_=>b.elim
 |.int _,_,_,_,_,_,_,b,_,_,_=>by cases b
 |.bool,_,_,_,_,_,_,b,_,_,_=>by cases b
 |.str,_,_,_,_,_,_,b,_,_,_=>by cases b
 |.a2 _ _,_,_,_,_,_,_,b,_,_,_=>by cases b
 |.osl _,_,_,_,_,_,_,b,_,_,_=>by cases b
 |.ptr _ _,_,_,_,_,_,_,b,_,_,_=>by cases b
 |.optr _,_,_,_,_,_,_,b,_,_,_=>by cases b
 |.st _,_,_,_,_,_,_,b,_,_,_=>by cases b
 |.eL,_,_,_,_,_,_,b,_,_,_=>by cases b
theorem N7 {z:b0} {h:eC->X->Prop} {b:bm (X×aF)} (l:∀id t,ar b id=Y t->aR h w t.1 (rt id) t.2 (fp id)) {j:bM->ak} {i:bM->Value} (k:∀e,cN h w b rt fp (j e) (i e)) {q:bm (X×bM)}:∀{u:ah} {n:X} {B:bm aio} {p:X} {y:ahS} {t:aF} {ids:ahY},iD z u B p y->mY b j q u n=Y (t,ids)->∀d s g,fH u d=Y (s,g)->∀e,mb q (n+d)=Y e->(i e).cells.size=g.size
 |.pr a A,n,I::P,p,y,t,ids,E,f,d,s,g,c,e,m=>by
  simp only[mY] at f;split at f
  case h_2=>cases f
  rename_i v x o G;obtain⟨J,C,K,⟨L,Q,aw,N,O⟩,D⟩:=E;cases d with
  |zero=>
   simp only[fH,eR,ij] at c;obtain⟨_,rfl⟩:=c;rw[nc] at m;rw[m] at o;obtain⟨H,M,_⟩:=PB (t:=v.1) (ids:=v.2) l C (k e) o;have:=H.len;grind
  |succ d=>
   simp only[fH] at c;split at c
   ·rename_i r F;simp only[eR,ij] at c;obtain⟨_,rfl⟩:=c;exact N7 l k (u:=A) (n:=n+1) (t:=x.1) (ids:=x.2) D G d r.1 r.2 F e (by rwa[(aa:n+1+d=n+(d+1))])
   grind
 |.pr _ _,_,[],_,_,_,_,b,_,_,_,_,_,_,_=>b.elim
 |.nil,_,_,_,_,_,_,_,_,_,_,_,c,_,_=>by cases c
 |.int _,_,_,_,_,_,_,b,_,_,_,_,_,_,_=>by cases b
 |.bool,_,_,_,_,_,_,b,_,_,_,_,_,_,_=>by cases b
 |.str,_,_,_,_,_,_,b,_,_,_,_,_,_,_=>by cases b
 |.a2 _ _,_,_,_,_,_,_,b,_,_,_,_,_,_,_=>by cases b
 |.osl _,_,_,_,_,_,_,b,_,_,_,_,_,_,_=>by cases b
 |.ptr _ _,_,_,_,_,_,_,b,_,_,_,_,_,_,_=>by cases b
 |.optr _,_,_,_,_,_,_,b,_,_,_,_,_,_,_=>by cases b
 |.st _,_,_,_,_,_,_,b,_,_,_,_,_,_,_=>by cases b
 |.eL,_,_,_,_,_,_,b,_,_,_,_,_,_,_=>by cases b
theorem Tk (av:o.op=.build c s) {J:ah} (D:lF E.tt c=Y J) (d0:a7 J k=bp\/J=k) (R:mx s.toList 0=bp) (A:∀d∈s.toList,cb d.1 (gH k)=bp) (O:∀e l b,fH k e=Y (l,b)->∀f,mb s.toList e=Y f->(a.eval f).cells.size=b.size):∃h g p,iD E.P k h 0 g/\(bL a.eval o).run E.P w=.ok (.value (.agg p)) w/\p.toList.length=k.size/\(∀e l b,fH k e=Y (l,b)->(∀f,mb s.toList (0+e)=Y f->(a.eval f).cells.size=b.size/\(p.toList.drop (0+fA k e)).take b.size=(a.eval f).cells.toList)/\(mb s.toList (0+e)=bo->(p.toList.drop (0+fA k e)).take b.size=(g.drop (fA k e)).take b.size)):=by
 obtain⟨m,h,g,S,c1,T,U,q,c2⟩:∃m h g,E.P.info? c=some m/\m.size=k.size/\m.zero=some (.agg g)/\E.P.underlying c=some (.struct h)/\iD E.P k h.toList 0 g.toList/\g.size=k.size:=by
  unfold lF at D;split at D
  ·rename_i el ad;cases D;obtain⟨_,m,h,g,aw,d2,_,d3,d4,d5,d6⟩:=E.ok c _ ad;grind [alq,iD.lay]
  grind
 have F:=run_places (P:=E.P) w k h.toList 0 g.toList q;simp only[nf] at F;generalize ds:((bI (gH k)).map λn=>(fA k n,match fH k n with|some d=>d.2.size|none=>0))=H at F;have v:∀n l b,fH k n=Y (l,b)->n<gH k->H.toArray[n]?=Y (fA k n,b.size):=(by grind);obtain⟨p,ce,d7,ci,aJ⟩:=zQ (λm=>H.toArray[m]?) (s.toList.map λd=>(d.1,a.eval d.2)) g (by
  intro d x;obtain⟨j,B,rfl⟩:=eY.1 x;have t:j.1<gH k:=gT (A j B);obtain⟨l,b,i⟩:=ry q j.1 t;refine⟨_,_,v _ _ _ i t,O _ _ _ i j.2 ?_,by simp_all [xd]⟩;grind [HY]) (by
  rw[oK];refine(HZ R).imp_of_mem ?_;intro d I x a4 t bx co d1 d8 aq L;have z:d.1<gH k:=gT (A d x);have Q:I.1<gH k:=gT (A I a4);obtain⟨cs,cv,r⟩:=ry q d.1 z;obtain⟨d9,ek,N⟩:=ry q I.1 Q;rw[v _ _ _ r z] at aq;rw[v _ _ _ N Q] at L;cases aq;cases L;exact .inl (uV r N t))
 have bl:p.toList.length=k.size:=(by grind);refine⟨h.toList,g.toList,p,q,?_,bl,?_⟩
 ·have a3:(akq (λf=>(f.fst,a.eval f.snd)) s).toList=s.toList.map λd=>(d.1,a.eval d.2):=ac;have a0:(h.mapM λM=>do ai8 (M.offset,<-aiM M.type):Sem (bU ep)).run E.P w=.ok H.toArray w:=by
   rw[ala,Sem.run_map,F];rfl
  have G:(aih c).run E.P w=.ok (.agg g) w:=(by simp[aih,aiw,S,T]);simp only[bL,av,Instr.build,bY,G,b8 U,b1,a0,a3,Value.cells,ce];rfl
 intro e l b i;have am:e<gH k:=HC i;simp only[nf];have dl:=xd i;refine⟨λf C=>?_,λC=>?_⟩
 ·have an:=z9 C;have G:=O e l b i f C;refine⟨G,?_⟩;apply hM;intro y;rcases cO y b.size with u|u
  ·obtain⟨K,bs⟩:∃K,(a.eval f).cells[y]?=some K:=⟨_,Ba aa⟩;have:=aJ (e,a.eval f) (eY.2 ⟨(e,f),an,bn⟩) _ _ (v _ _ _ i am) y K bs;grind
  grind
 apply hM;intro y;rcases cO y b.size with u|u
 ·rw[rZ u,rZ u,pA,pA];simp only[Bb];refine ci _ ?_;intro d x bx co aq;obtain⟨j,B,rfl⟩:=eY.1 x;have ap:=Il C j B;have z:j.1<gH k:=gT (A j B);obtain⟨cs,cv,r⟩:=ry q j.1 z;rw[v _ _ _ r z] at aq;cases aq;rcases Nat.lt_or_gt_of_ne ap with t|V
  ·have:=uV r i t;omega
  have:=uV i r V;omega
 grind
theorem cM.HF {t:ahQ} (d:cM C st t w I rt fp):∀{a:ahY},a.Nodup->(∀id∈a,∃b,ar st.h id=Y b)->(a.map fp).flatten.Nodup
 |[],_,_=>by simp
 |i::a,r,e=>by obtain⟨k,l⟩:=ko.1 r;obtain⟨b,f⟩:=e i ac;simp only[ie,lW];refine jR.2 ⟨(d.tree i b f).2.1,cM.HF d l (λid x=>e id (by grind)),λj m v o c=>?_⟩;subst c;obtain⟨y,q,n⟩:=lY.1 o;obtain⟨g,p,rfl⟩:=eY.1 q;obtain⟨u,s⟩:=e g (by grind);exact d.dis i g b u f s (λc=>k (c▸p)) j m n
theorem W5 (a:m∈(f.map fp).flatten):∃id∈f,m∈fp id:=by grind
def si {k:Type} (tt:bm (bF×ah)) (m:bm (X×ah)) (e:bm (X×aF)) (h:bM->ak) (a:X) (l:bF) (c:bm (X×bM)) (g:cI->bv k):bv k:=
 match lF tt l with
 |none=>bo
 |some f=>match ar m a with
  |some (.st j)=>bif a7 f j&&(mx c 0&&c.all (λi=>cb i.1 (gH j))) then match ar e a,mY e h c j 0 with
   |none,Y (b,d)=>bif jq d then g ⟨Y (a,.ref a []),d,[],[(a,⟨.st b.1,b.2⟩)]⟩ else bo
   |_,_=>bo
   else bo
  |_=>bif mx c 0&&c.all (λi=>cb i.1 (gH f)) then match p6 h c f 0 with
   |some b=>g ⟨Y (a,.val (.st b.1) b.2),[],[],[]⟩
   |none=>match ar e a,mY e h c f 0 with
    |none,Y (b,d)=>bif jq d then g ⟨Y (a,.ref a []),d,[],[(a,⟨.st b.1,b.2⟩)]⟩ else bo
    |_,_=>bo
   else bo
theorem Lv {F:b} {u:cI->bv b} (U:o.op=.build c s) (O:o.dst=Y m) (P:C.ok m) {r:ah} (y:lF E.tt c=Y r) (D:a7 r k=bp\/r=k) (q:(mx s.toList 0&&s.toList.all (λp=>cb p.1 (gH k)))=bp) (i:(match ar st.h m,mY st.h (aT st.g) s.toList k 0 with
  |none,Y (d,e)=>bif jq e then u ⟨Y (m,.ref m []),e,[],[(m,⟨.st d.1,d.2⟩)]⟩ else bo
  |_,_=>bo)=Y F)
 (V:∀v,u v=Y F->Q (v.app st)):eZ E C o st Q:=by
 split at i
 case h_2=>cases i
 rename_i d e R n;cases A:jq e with
 |false=>grind
 |true=>
 rw[A] at i;simp only[cC,gY] at q;obtain⟨H,J⟩:=q;rintro a w ⟨I,rt,fp,j⟩ next a3 T
 have z:∀id d,ar st.h id=Y d->aR (bb I C.B) w d.1 (rt id) d.2 (fp id):=λid d n=>(j.tree id d n).1;obtain⟨K,av,G,M,ad,bx,N⟩:=Tk (a:=a) (w:=w) U y D H J (by
  obtain⟨K,av,_,p⟩:=lF.ok y;intro an ap a0 am l bs;exact N7 z (λl=>j.aT l) (D.elim (λi=>iD.lay i p) (λi=>i▸p)) n an ap a0 am l (by rwa[nf]))
 obtain⟨x,bl,L⟩:=N6 z (λl=>j.aT l) (cells:=G.toList) M n aa N;rw[lV] at x;refine eZ.own (S:=e) (t:=⟨.st d.1,d.2⟩) (cs:=G.toList) (f:=(e.map fp).flatten) O P j T (.inr R) ad (hj.refl w) rfl x (j.HF (jq.ok A) L) (λa4 q=>?_) ?_
 ·grind
 have:=V _ i;rw[show(cI.mk (Y (m,.ref m [])) e [] [(m,⟨.st d.1,d.2⟩)]).app st=⟨(m,.ref m [])::aij e [] st.g,(m,⟨.st d.1,d.2⟩)::del e st.h⟩ by
  show aO.mk ((m,_)::nF e [] st.g) ([_]++q5 e st.h)=_;rw[sQ,w7];rfl] at this
 omega
theorem Ta {t:b} {q:cI->bv b} (k:o.op=.build c s) (i:o.dst=Y m) (j:C.ok m) (a:si E.tt l st.h (aT st.g) m c s.toList q=Y t) (n:∀r,q r=Y t->Q (r.app st)):eZ E C o st Q:=by
 unfold si at a;split at a
 ·cases a
 rename_i u e;split at a
 ·rename_i v x;cases d:(a7 u v&&(mx s.toList 0&&s.toList.all (λp=>cb p.1 (gH v)))) with
  |false=>grind
  |true=>
  rw[d] at a;simp only[bG] at a;have f:=d;rw[cC] at f;exact Lv k i j e (.inl f.1) f.2 a n
 cases d:(mx s.toList 0&&s.toList.all (λp=>cb p.1 (gH u))) with
 |false=>grind
 |true=>
 rw[d] at a;simp only[bG] at a;split at a
 ·rename_i y w;refine aiO (an:=[]) i j ?_;rw[k];simp only[g2,yJ,e,d,bG,w];exact n _ a
 exact Lv k i j e (.inr bn) d a n
def ub {i:Type} (tt:bm (bF×ah)) (f:bm (X×ah)) (g:bm (X×aF)) (a:X) (j:bF) (d:ak) (b:cI->bv i):bv i:=
 match ar tt j,ar g a with
 |some h,bo=>match d with
  |.val e d=>bif a7 h e then match ar f a with
   |some (.ptr .bg _)=>b ⟨Y (a,.val (.ptr .bg e) (Y d)),[],[],[]⟩
   |_=>b ⟨Y (a,.ref a []),[],[],[(a,⟨.optr e,d⟩)]⟩
   else bo
  |.ref id []=>match ar g id with
   |some c=>bif a7 h c.1 then match ar f a with
    |some (.ptr .bg _)=>bif oE c.1 then b ⟨Y (a,.hy (.ref id [])),[],[],[]⟩ else bo
    |_=>b ⟨Y (a,.ref a []),[id],[],[(a,⟨.optr c.1,c.2⟩)]⟩
    else bo
   |none=>bo
  |_=>bo
 |_,_=>bo
theorem Td {d0:b} {ci:cI->bv b} (O:o.op=.box c n) (M:o.dst=Y m) (N:C.ok m) (e:ub E.tt l st.h m c (aT st.g n) ci=Y d0) (P:∀c1,ci c1=Y d0->Q (c1.app st)):eZ E C o st Q:=by
 unfold ub at e;split at e
 case h_2=>cases e
 rename_i r L dl;split at e
 ·rename_i ad d2 z;cases i:a7 r ad with
  |false=>grind
  |true=>
  rw[i] at e;simp only[bG] at e;split at e
  ·rintro a w ⟨I,rt,fp,j⟩ next co F
   have p:=j.aT n;rw[z] at p;have A:=(E.ok c r L).lay i;generalize H:a.eval n=K at p;cases p with|val U=>
   rename_i V;have u:∀s d,bb I C.B s d->c5 w (w.alloc (.cells V.toArray c)) d:=λs d i=>.of_heap ((aiP w _).heap d (j.ib d (mX i)));have bs:Yields E C st a w I rt fp o (λy J=>Q ⟨(m,y)::st.g,J++st.h⟩):=by
    refine⟨.pointer (Y ⟨w.heap.size,0,bo⟩),w.alloc (.cells V.toArray c),λd=>I d\/d=w.heap.size,λ_=>[],λ_=>[],.val (.ptr .bg ad) (Y d2),[],?_,aiP w _,λ_ e=>.inl e,?_,.nil,?_,P _ e⟩
    ·simp[bL,O,H,akp,newVar,aiH,ow A U.len U.one]
    ·rintro d (e|rfl)
     ·grind
     simp_all
    refine .val (τ:=.ptr .bg ad) (x:=Y d2) (cs:=[.pointer (Y ⟨w.heap.size,0,bo⟩)]) ⟨bn,w.heap.size,0,V,bn,.inr bn,U.len,alr (λd6 K d4=>by grind),?_⟩;refine U.mono (λs d i=>⟨?_,u s d i⟩) ac;cases s
    ·exact .inl i
    exact i.imp .inl (λe=>e)
   exact bs.wp j M N (λy J am w' a3 ap a4=>F _ am w' a3 ap a4)
  refine aiO (an:=[]) M N ?_;rw[O];simp only[g2,yK,L,dl,z,i,bG];exact P _ e
 ·rename_i id z;split at e
  case h_2=>cases e
  rename_i k R;cases i:a7 r k.1 with
  |false=>grind
  |true=>
  rw[i] at e;simp only[bG] at e;split at e
  ·cases bl:oE k.1 with
   |false=>rw[bl] at e;cases e
   |true=>
   rw[bl,bG] at e;rintro a w ⟨I,rt,fp,j⟩ next co F
   have p:=j.aT n;rw[z] at p;obtain⟨q,d1,ce⟩:=j.tree id k R;have A:=(E.ok c r L).lay i;generalize H:a.eval n=K at p;have d5:=p;cases p with|ref G a0=>
   rw[R] at G;cases G;obtain⟨rfl,rfl,rfl⟩:=ait.1 a0;obtain⟨aq,d3⟩:=o3.one bl;have ds:=q.len;rw[aq] at ds;obtain⟨cv,c2⟩:=qB.1 ds;have u:∀d,d<w.heap.size->c5 w (w.alloc (.cells (rt id).toArray c)) d:=λd i=>.of_heap ((aiP w _).heap d i);have bs:Yields E C st a w I rt fp o (λy J=>Q ⟨(m,y)::st.g,J++st.h⟩):=by
    refine⟨.pointer (Y ⟨w.heap.size,0,bo⟩),w.alloc (.cells (rt id).toArray c),λd=>I d\/d=w.heap.size,rt,fp,.hy (.ref id []),[],?_,aiP w _,λ_ e=>.inl e,?_,.nil,?_,P _ e⟩
    ·simp[bL,O,H,akp,newVar,aiH,ow A q.len q.one]
    ·rintro d (e|rfl)
     ·exact .inl e
     exact .inr ⟨bc _,ac⟩
    have av:cN (bb (λd=>I d\/d=w.heap.size) C.B) (w.alloc (.cells (rt id).toArray c)) ([]++st.h) (fi [] rt rt) (fi [] fp fp) (.ref id []) (cX k.1 (rt id)):=by
     refine d5.mono (λs d D=>⟨?_,u d (j.ib d (mX D))⟩) (λbx r T=>⟨(j.tree bx r T).1,λd i=>u d ((j.tree bx r T).2.2 d i).2.2.1⟩) (λbx r T=>⟨T,bn,bn⟩);cases s
     ·exact .inl D
     exact D.imp .inl (λe=>e)
    rw[c2] at av|-;rw[d3] at av;refine .hy (v:=cv) (.inr bn) ?_ (q.one cv (by rw[c2];simp)) av;rw[World.cell?_alloc_new];rfl
   exact bs.wp j M N (λy J am w' a3 ap a4=>F _ am w' a3 ap a4)
  rintro a w ⟨I,rt,fp,j⟩ next co F
  have p:=j.aT n;rw[z] at p;obtain⟨q,d1,ce⟩:=j.tree id k R;have A:=(E.ok c r L).lay i;generalize H:a.eval n=K at p;cases p with|ref G a0=>
  rw[R] at G;cases G;obtain⟨rfl,rfl,rfl⟩:=ait.1 a0;have u:∀d,d<w.heap.size->c5 w (w.alloc (.cells (rt id).toArray c)) d:=λd i=>.of_heap ((aiP w _).heap d i);have d7:aR (bb I C.B) (w.alloc (.cells (rt id).toArray c)) k.1 (rt id) k.2 (fp id):=q.mono (λs d i=>⟨i,u d (j.ib d (mX i))⟩) (λd i=>u d (ce d i).2.2.1);refine eZ.own (S:=[id]) (t:=⟨.optr k.1,k.2⟩) (cs:=[.pointer (Y ⟨w.heap.size,0,bo⟩)]) (f:=w.heap.size::fp id) (v:=.pointer (Y ⟨w.heap.size,0,bo⟩)) (w':=w.alloc (.cells (rt id).toArray c)) M N j F (.inr dl) ?_ (aiP w _) rfl ⟨w.heap.size,0,fp id,rt id,bn,bn,q.len,alr (λd6 K d4=>by grind),als (by simp[q.len]),d7⟩ (ko.2 ⟨λD=>ajY _ (ce _ D).2.2.1,d1⟩) ?_ ?_
  ·simp[bL,O,H,akp,newVar,aiH,ow A q.len q.one]
  ·intro d i;rcases fV.1 i with rfl|i
   ·simp_all
   grind
  have:=P _ e;rw[show(cI.mk (Y (m,.ref m [])) [id] [] [(m,⟨.optr k.1,k.2⟩)]).app st=⟨(m,.ref m [])::aij [id] [] st.g,(m,⟨.optr k.1,k.2⟩)::del [id] st.h⟩ from rfl] at this;omega
 grind
def IK (a:ah) (b:ak):bv a.den:=match a with
 |.osl _=>match b with
  |.dg (.slice bo 0 0)=>Y []
  |_=>bo
 |_=>bo
def Xz {w:bD} {rt:X->ahS} {fp:X->ahY} (c:cN U w e rt fp d S) {b:k.den} (a:IK k d=Y b):aR U w k S.cells.toList b []:=by
 unfold IK at a;split at a
 ·split at a
  ·cases a;cases c;exact⟨bo,0,bn,.inl ⟨bn,bn,bn,bn⟩⟩
  cases a
 cases a
def ug (c:bm (X×aF)) (b:ah) (x:ak):bv (b.den×ahY):=
 match x with
 |.ref id []=>match ar c id with
  |some d=>match hZ b d.2 with
   |some a=>Y (a,[id])
   |none=>bo
  |none=>bo
 |x=>match coe b x with
  |some a=>Y (a,[])
  |none=>(IK b x).map λa=>(a,[])
def uh (b:bm (X×aF)) (a:ah):bm ak->bv (bm a.den×ev)
 |[]=>Y ([],[])
 |x::e=>match ug b a x,uh b a e with
  |some d,Y c=>Y (d.1::c.1,d.2::c.2)
  |_,_=>bo
theorem TB (o:∀id k,ar e id=Y k->aR U w k.1 (rt id) k.2 (fp id)) (m:fj E.P k c) (h:cN U w e rt fp d S) {j:k.den} (a:ug e k d=Y (j,f)):aR U w k S.cells.toList j (f.map fp).flatten/\∀id∈f,∃s,ar e id=Y s:=by
 unfold ug at a;split at a
 ·rename_i id;split at a
  case h_2=>cases a
  rename_i t b;split at a
  case h_2=>cases a
  rename_i u q;cases a;obtain⟨x,d⟩:=t;have n:=ka q;cases n;cases h with|ref g p=>
  rw[b] at g;cases g;obtain⟨rfl,rfl,rfl⟩:=ait.1 p;have i:=o id _ b;rw[ow m i.len i.one];grind
 split at a
 ·grind [GC]
 obtain⟨v,r,l⟩:=fD.1 a;cases l;exact⟨Xz h r,ac⟩
theorem LS {e:bm (X×aF)} {c:ah}:∀{b:bm ak} {xs:bm c.den} {is:ev},uh e c b=Y (xs,is)->xs.length=b.length/\is.length=b.length/\∀(d:X) (h:c.den),xs[d]?=Y h->∃(y:ak) (f:ahY),b[d]?=Y y/\is[d]?=Y f/\ug e c y=Y (h,f)
 |[],xs,is,a=>by cases a;grind
 |y::b,xs,is,a=>by
  simp only[uh] at a;split at a
  ·rename_i n g m i;cases a;obtain⟨j,k,l⟩:=LS (xs:=g.1) (is:=g.2) i;grind
  grind
def sk {i:Type} (tt:bm (bF×ah)) (k:bm (X×ah)) (f:bm (X×aF)) (e:bM->ak) (a:X) (j:bF) (g:X) (c:bm (X×bM)) (d:cI->bv i):bv i:=
 match gX tt j,ar f a with
 |some h,bo=>
  match(match ar k a with|some (.osl t)=>t|_=>h) with
  |t=>bif a7 h t&&b2 t.size 2000&&b2 g 1000&&vv c 0&&bH c.length g then
   match yO t (c.map λb=>e b.2) with
   |some l=>d ⟨Y (a,.ref a []),[],[],[(a,⟨.osl t,l⟩)]⟩
   |none=>match uh f t (c.map λb=>e b.2) with
    |some b=>bif jq b.2.flatten then d ⟨Y (a,.ref a []),b.2.flatten,[],[(a,⟨.osl t,b.1⟩)]⟩ else bo
    |none=>bo
  else bo
 |_,_=>bo
theorem Th {d8:b} {bs:cI->bv b} {q:X} (ds:o.op=.buildSlice c m s) (cv:o.dst=Y q) (c1:C.ok q) (j:sk E.tt l st.h (aT st.g) q c m s.toList bs=Y d8) (L:∀O,bs O=Y d8->Q (O.app st)):eZ E C o st Q:=by
 unfold sk at j;split at j
 case h_2=>cases j
 rename_i r co c2;generalize x:(match ar l q with|some (.osl d)=>d|_=>r)=d at j;simp only at j;cases i:(a7 r d&&b2 d.size 2000&&b2 m 1000&&vv s.toList 0&&bH s.toList.length m) with
 |false=>grind
 |true=>
 rw[i] at j;simp only[bG] at j;split at j
 ·rename_i z d4;refine aiO (an:=l) cv c1 ?_;rw[ds];simp only[g2,ww,co,c2];cases H:ar l q with
  |none=>
   rw[H] at x;simp only at x;subst x;simp only[i,bG,d4];exact L _ j
  |some k=>
   rw[H] at x;cases k<;>(simp only at x;subst x;simp only[i,bG,d4];exact L _ j)
 split at j
 case h_2=>cases j
 rename_i k d1;obtain⟨z,p⟩:=k;cases av:jq p.flatten with
 |false=>grind
 |true=>
 rw[av] at j;rintro a w ⟨I,rt,fp,D⟩ next gf f6
 have fz:∀id d,ar st.h id=Y d->aR (bb I C.B) w d.1 (rt id) d.2 (fp id):=λid d x=>(D.tree id d x).1;simp only[cC] at i;obtain⟨⟨⟨⟨em,V⟩,ad⟩,N⟩,bx⟩:=i;have V:=gT V;have ad:=gT ad;have bx:s.toList.length=m:=fv bx;obtain⟨d6,U,_,fl,fn⟩:=gX.ok co;have K:=fn.lay em;obtain⟨a4,gi,d7,_⟩:=K.info;have hr:=K.pos;obtain⟨eq,ce,ci⟩:=LS d1;simp only[ff] at eq ce;have f9:z.length=m:=aa;have hc:m*d.size<=16777216:=(by have:m*d.size<=1000*2000:=mR ad V;omega);have am:∀(e:X) (k:X×bM),s.toList[e]?=Y k->∃(y:d.den) (u:ahY),z[e]?=Y y/\p[e]?=Y u/\aR (bb I C.B) w d (a.eval k.2).cells.toList y (u.map fp).flatten/\∀id∈u,∃r,ar st.h id=Y r:=(by intro e k F;have f3:e<z.length:=(by grind);obtain⟨kd,u,aq,gl,R⟩:=ci e z[e] ac;rw[jg,F] at aq;simp only[i9,eR] at aq;subst aq;obtain⟨hw,ic⟩:=TB fz K (D.aT k.2) R;grind);have ap:∀id∈p.flatten,∃r,ar st.h id=Y r:=by
  intro id T;obtain⟨M,H,gs⟩:=lY.1 T;obtain⟨e,F,rfl⟩:=ht.1 H;have G:s.toList[e]?=Y (s.toList[e]'(by omega)):=ba _
  grind
 obtain⟨d5,f0,f1⟩:∃ek:ahQ,(m*d.size=0->ek=#[])/\(m*d.size≠0->∃J,(aih U).run E.P w=.ok J w/\ek=J.cells):=by
  by_cases A:m*d.size=0
  ·simp_all
  obtain⟨J,_,ge⟩:=fj.HT K;exact⟨J.cells,λj=>absurd j A,λ_=>⟨J,by simp[aih,aiw,d7.info,ge a4 d7.info],bn⟩⟩
 obtain⟨bl,d9,i1,i2,aJ⟩:=zQ (λa4=>Y (a4*d.size,d.size)) (s.toList.map λk=>(k.1,a.eval k.2)) ((Array.range (m*d.size)).map (d5[· %d5.size]!)) (by
  intro k L;obtain⟨i0,f7,rfl⟩:=eY.1 L;obtain⟨e,F,rfl⟩:=ht.1 f7;have G:s.toList[e]?=Y s.toList[e]:=ac;obtain⟨y,_,_,_,a3,_⟩:=am e _ G;have O:=rG N e _ G;have:(e+1)*d.size<=m*d.size:=h5 _ aa;rw[lu,lv] at this;refine⟨_,_,bn,by have:=a3.len;omega,?_⟩;grind) (by
  rw[h4];intro e M F H f3 io i3 is i8 aq R;simp only[List.getElem_map,eR,ij] at aq R;simp only[ff] at F H;have ex:=rG N e s.toList[e] ac;have f2:=rG N M s.toList[M] ac;obtain⟨rfl,rfl⟩:=aq;obtain⟨rfl,rfl⟩:=R;left;rw[ex,f2];have:(0+e+1)*d.size<=(0+M)*d.size:=h5 _ aa;grind)
 have hs:bl.size=m*d.size:=(by grind);have fs:∀n,n<w.heap.size->c5 w (w.alloc (.cells bl U)) n:=λn i=>.of_heap ((aiP w _).heap n i);have ft:(p.map λu=>(u.map fp).flatten).flatten=(p.flatten.map fp).flatten:=by
  clear am ap ci av j d1 ce
  induction p with
  |nil=>rfl
  |cons y M hv=>grind
 have f4:∀n∈(p.flatten.map fp).flatten,n<w.heap.size/\∃id∈p.flatten,∃r,ar st.h id=Y r/\n∈fp id:=(by intro n i;obtain⟨id,T,i⟩:=W5 i;obtain⟨r,a0⟩:=ap id T;exact⟨((D.tree id r a0).2.2 n i).2.2.1,id,T,r,a0,i⟩);refine eZ.own (S:=p.flatten) (t:=⟨.osl d,z⟩) (cs:=[.slice (Y ⟨w.heap.size,0,bo⟩) m m]) (f:=w.heap.size::(p.flatten.map fp).flatten) (v:=.slice (Y ⟨w.heap.size,0,bo⟩) m m) (w':=w.alloc (.cells bl U)) cv c1 D f6 (.inr c2) ?_ (aiP w _) rfl ?_ (ko.2 ⟨λf5=>ajY _ (f4 _ f5).1,D.HF (jq.ok av) ap⟩) ?_ ?_
 ·have f8:=K.sizeOf w;have hi:¬(16777216<m*d.size):=aa;have d0:(akq (λy=>(y.fst,a.eval y.snd)) s).toList=s.toList.map λk=>(k.1,a.eval k.2):=ac;simp only[bL,ds,Instr.buildSlice,bY,b8 fl,b1,f8];rw[ax aa];by_cases A:m*d.size=0
  ·rw[au A];obtain rfl:=f0 A;rw[d0];simp only[bY,cw,b1,d9,aiH,newObj];rfl
  rw[ax A];obtain⟨J,gc,rfl⟩:=f1 A;rw[d0];simp only[bY,cw,b1,gc,d9,aiH,newObj];rfl
 ·refine⟨Y ⟨w.heap.size,0,bo⟩,m,by rw[f9],.inr ⟨w.heap.size,0,p.map λu=>(u.map fp).flatten,bn,by rw[ft],by grind,(by grind),als aa,λe y go a3 dl=>?_⟩⟩;have F:e<m:=(by grind);have G:s.toList[e]?=Y (s.toList[e]'(by omega)):=by simp
  obtain⟨jp,u,d3,fT,d2,a0⟩:=am e _ G;rw[a3] at d3;obtain rfl:=gC d3;rw[jg,fT] at dl;obtain rfl:=gC dl;refine⟨_,d2.len,alr (λd6 el gt=>?_),d2.mono (λii n i=>⟨i,fs n (D.ib n (mX i))⟩) (λn i=>?_)⟩
  ·have:=aJ (s.toList[e].1,a.eval s.toList[e].2) (eY.2 ⟨s.toList[e],cR _,bn⟩) _ _ rfl d6 el (by grind);have O:=rG N e _ G;grind
  grind
 ·intro n i;rcases fV.1 i with rfl|i
  ·exact .inl ⟨bc _,ac⟩
  grind
 have:=L _ j;rw[show(cI.mk (Y (q,.ref q [])) p.flatten [] [(q,⟨.osl d,z⟩)]).app st=⟨(q,.ref q [])::aij p.flatten [] st.g,(q,⟨.osl d,z⟩)::del p.flatten st.h⟩ by
  show aO.mk ((q,_)::nF _ [] st.g) ([_]++q5 _ st.h)=_;rw[sQ,w7];rfl] at this
 omega
end
end
section
def jJ:ah->ah
 |.osl a=>.a2 .bg (jJ a)
 |.st a=>.st (jJ a)
 |.pr b c=>.pr (jJ b) (jJ c)
 |.mp a=>.fx .bg a
 |τ=>τ
def rk:ah->bA
 |.osl a|.st a=>rk a
 |.pr b c=>rk b&&rk c
 |.optr _|.eL=>bq
 |_=>bp
def rn:∀d:ah,(jJ d).den=d.den
 |.osl c=>b3 bm (rn c)
 |.st c=>rn c
 |.pr a b=>by show((jJ a).den×(jJ b).den)=(a.den×b.den);rw[rn a,rn b]
 |.int _|.bool|.str|.a2 _ _|.ptr _ _|.optr _|.nil|.eL|.mp _|.fx _ _|.fn _ _=>rfl
def nA (a:ah) (b:a.den):(jJ a).den:=cast (rn a).symm b
def Ts {c:Type} (d:b=c) (e:bm b=bm c) (a:bm b):cast e a=a.map (cast d):=by subst d;show a=a.map (λf=>f);simp
theorem Gu {c C d:Type} (e:b=c) (g:C=d) (f:(b×C)=(c×d)) (a:b×C):cast f a=(cast e a.1,cast g a.2):=by grind
def MU (a:ah) (b:bm a.den):(nA (.osl a) b:bm (jJ a).den)=b.map (nA a):=Ts (rn a).symm _ b
def Vm (a b:ah) (c:a.den×b.den):(nA (.pr a b) c:(jJ a).den×(jJ b).den)=(nA a c.1,nA b c.2):=Gu (rn a).symm (rn b).symm _ c
theorem sM:∀b:ah,(jJ b).size=b.size
 |.osl a=>rfl
 |.st a=>sM a
 |.pr c d=>by simp only[jJ,aiq,sM c,sM d]
 |.int _|.bool|.str|.a2 _ _|.ptr _ _|.optr _|.nil|.eL|.mp _|.fx _ _|.fn _ _=>rfl
theorem vr {z q:eC->X->Prop} {w:bD} (i:∀c b,z c b->q c b):∀{τ:ah} {g:ahS} {e:τ.den} {h:ahY},rk τ=bp->aR z w τ g e h->(∀b∈h,q .bg b)->aR q w (jJ τ) g (nA τ e) []
 |.osl f,g,p,h,j,a,k=>by
  obtain⟨A,I,D,a⟩:=a;have E:(nA (.osl f) p:bm (jJ f).den).length=aia (α:=f.den) p:=(by rw[MU];simp);rcases a with⟨rfl,T,rfl,rfl⟩|⟨b,P,B,rfl,rfl,o,v,C,x⟩
  ·refine⟨bn,bo,0,by rw[D,E],by grind,λ_=>rfl,.inl ?_⟩;grind
  refine⟨bn,_,I,by rw[D,E],aa,(λa=>by cases a),?_⟩;refine .inr ⟨b,P,bn,k b ac,λl e n=>?_⟩;rw[MU] at n;have n:(List.map (nA f) p)[l]?=Y e:=n;rw[jg] at n;obtain⟨Q,F,rfl⟩:=fD.1 n;have U:l<aia (α:=f.den) p:=(hF.1 F).1;have M:B[l]?=Y (B[l]'(by omega)):=ba _
  obtain⟨u,r,s,t⟩:=x l Q _ F M;rw[sM];exact⟨u,r,s,vr i j t (λm y=>k m (hY _ (lY.2 ⟨_,cR _,y⟩)))⟩
 |.st f,g,e,h,j,a,k=>vr (τ:=f) i j a k
 |.pr A b,g,e,h,j,a,k=>by
  simp only[rk,cC] at j;obtain⟨S,f2,rfl,o,v⟩:=a;have R:=Vm A b e;refine⟨[],[],bn,?_,?_⟩
  ·rw[sM];have:=vr i j.1 o (λm y=>k m (by grind));grind
  rw[sM];have:=vr i j.2 v (λm y=>k m (by grind));grind
 |.int O,g,e,h,_,a,_=>by obtain rfl:=aiY (τ:=.int O) rfl a;exact a.mono (λc b d=>⟨i c b d,cq _ _⟩) ac
 |.bool,g,e,h,_,a,_=>by obtain rfl:=aiY (τ:=.bool) rfl a;exact a.mono (λc b d=>⟨i c b d,cq _ _⟩) ac
 |.str,g,e,h,_,a,_=>by obtain rfl:=aiY (τ:=.str) rfl a;exact a.mono (λc b d=>⟨i c b d,cq _ _⟩) ac
 |.a2 c f,g,e,h,_,a,_=>by obtain rfl:=aiY (τ:=.a2 c f) rfl a;exact a.mono (λc b d=>⟨i c b d,cq _ _⟩) ac
 |.ptr c f,g,e,h,_,a,_=>by obtain rfl:=aiY (τ:=.ptr c f) rfl a;exact a.mono (λc b d=>⟨i c b d,cq _ _⟩) ac
 |.nil,g,e,h,_,a,_=>by obtain rfl:=aiY (τ:=.nil) rfl a;exact a.mono (λc b d=>⟨i c b d,cq _ _⟩) ac
 |.optr _,_,_,_,j,_,_=>by cases j
 |.fx c f,g,e,h,_,a,_=>by obtain rfl:=aiY (τ:=.fx c f) rfl a;exact a.mono (λc b d=>⟨i c b d,cq _ _⟩) ac
 |.fn c f,g,e,h,_,a,_=>by obtain rfl:=aiY (τ:=.fn c f) rfl a;exact a.mono (λc b d=>⟨i c b d,cq _ _⟩) ac
 |.mp f,g,e,h,_,a,k=>by
  cases e with
  |none=>exact⟨bn,a.2⟩
  |some G=>
   obtain⟨b,J,H,o,v,L,C,x,K⟩:=a;refine⟨b,J,H,o,bn,L,k b (by grind),C,x,λl G N=>?_⟩;obtain⟨u,r,s,t⟩:=K l G N;exact⟨u,r,s,t.mono (λc b d=>⟨i c b d,cq _ _⟩) ac⟩
 |.eL,_,_,_,j,_,_=>by cases j
def rm:aF->ak
 |⟨.optr u,x⟩=>.val (.ptr .bg (jJ u)) (Y (nA u x))
 |⟨a,x⟩=>.val (jJ a) (nA a x)
def HI:ah->bA
 |.optr a=>rk a
 |τ=>rk τ
def gW (c:bm (X×aF)) (b:ahY) (a:ak):ak:=
 match a with
 |.ref id []=>bif eP id b then match ar c id with
  |some d=>rm d
  |none=>.dead else .ref id []
 |a=>bif a.fo b then .dead else a
theorem mu (c:bm (X×aF)) (b:ahY) (a:ak):(∃id d,a=.ref id []/\id∈b/\ar c id=Y d/\gW c b a=rm d)\/(gW c b a=.dead/\a.fo b=bp)\/(gW c b a=a/\a.fo b=bq):=by
 have e:∀a:ak,gW c b a=(bif a.fo b then .dead else a)->(∃id d,a=.ref id []/\id∈b/\ar c id=Y d/\gW c b a=rm d)\/(gW c b a=.dead/\a.fo b=bp)\/(gW c b a=a/\a.fo b=bq):=(by grind);cases a with
 |ref id g=>
  cases g with
  |nil=>
   cases f:eP id b with
   |true=>
    have i:(ak.ref id []).fo b=bp:=(by simp[aif,bT,f]);cases h:ar c id with
    |none=>grind [gW]
    |some d=>exact .inl ⟨id,d,bn,ha.1 f,h,by grind [gW]⟩
   |false=>grind [gW,aif,bT]
  |cons j g=>exact e _ rfl
 |_=>exact e _ rfl
def iA (c:bm (X×aF)) (b:ahY):ak->ak
 |.fe d=>.fe (d.map (gW c b))
 |a=>gW c b a
theorem HH (b:∀a,d≠.fe a):iA e f d=gW e f d:=by
 cases d with
 |fe a=>grind
 |_=>rfl
def sL (a:ahY) (st:aO):aO:=⟨st.g.map λb=>(b.1,iA st.h a b.2),del a st.h⟩
def HR (c:ak->ak) (e:c .dead=.dead):∀(d:bm (X×ak)) (b:X),gt (d.map λf=>(f.1,c f.2)) b=c (gt d b)
 |[],b=>e.symm
 |(g,a)::d,b=>by
  show gt ((g,c a)::_) b=_;rw[iQ,iQ];split
  ·rfl
  exact HR c e d b
theorem DU (a:ahY) (st:aO) (b:X):gt (sL a st).g b=iA st.h a (gt st.g b):=HR (iA st.h a) rfl st.g b
def Vp (a:ahY) (st:aO):aT (sL a st).g=λb=>iA st.h a (aT st.g b):=by
 funext b;cases b with
 |tmp c=>exact DU a st c
 |const d=>cases d<;>rfl
 |func e=>rfl
 |global f=>rfl
theorem Fz (b:d.fo f=bq) (a:bm (X×bm aZ)):fc f a d=d:=by grind [fc]
def ad4 {a:bm ak} (b:(ak.fe a).fo f=bq) (e:d∈a):d.fo f=bq:=by unfold aif at b|-;rw[tJ] at b|-;intro id h;obtain⟨c,g,rfl⟩:=ht.1 e;exact b id (ak.Ag (l:=a) (i:=c) (ba g) h)
theorem Kf (b:d.fo f=bq) (a:bm (X×bm aZ)):fI f a d=d:=by
 cases d with
 |fe e=>
  simp only[fI];rw[ia (λd c=>Fz (ad4 b c) a),alp]
 |_=>exact Fz b a
theorem Vq (a:ahY) (b:bm (X×bm aZ)) (c:aF):fI a b (rm c)=fc a b (rm c):=by unfold rm;split<;>rfl
def x6 (a e:ak):Prop:=a=.dead\/a=e\/∃b c,a=.fe b/\e=.fe c/\b.length=c.length/\∀(f:X) (d g:ak),b[f]?=Y d->c[f]?=Y g->d=.dead\/d=g
section
variable {C:eX} {st:aO} {G:ahQ} {w:bD}
theorem cM.freeze {e:X->ahS} (u:cM C st G w O e y) (T:∀id∈f,∃b,ar st.h id=Y b/\HI b.1=bp):gJ C (sL f st) G w:=by
 have K:=u.eB (S:=f) (keep:=[]) (new:=[]) (rtn:=e) (fpn:=y) (w':=w) (I':=λa=>O a\/∃id∈f,∃b,ar st.h id=Y b/\a∈y id) ⟨bc _,bn,bn,bn,λ_ _ _=>rfl,λ_ _=>.refl _ _,λ_ c=>.inl c,λa c=>c.imp id λ⟨id,ad,b,s,l⟩=>
  ⟨((u.tree id b s).2.2 a l).2.2.1,.inr ⟨id,ad,b,s,l⟩⟩,(λ_ _ c=>by cases c),(λ_ _ _ _ c=>by cases c),(λ_ c=>by cases c),(λ_ c=>by cases c)⟩
 refine⟨_,_,_,{K with tmp:=λq=>?_}⟩;rw[DU];have m:=u.tmp q;have p:=K.tmp q;rw[show gt (aO.mk (aij f [] st.g) ([]++del f st.h)).g q=fI f [] (gt st.g q) from p2 _ _ _ _] at p;generalize gt st.g q=j at m p;generalize G.getD q bW=i at m p;have E:∀(j:ak) (i:Value),cN (bb O C.B) w st.h e y j i->cN (bb (λa=>O a\/∃id∈f,∃b,ar st.h id=Y b/\a∈y id) C.B) w ([]++del f st.h) (fi [] e e) (fi [] y y) (fc f [] j) i->
  cN (bb (λa=>O a\/∃id∈f,∃b,ar st.h id=Y b/\a∈y id) C.B) w ([]++del f st.h) (fi [] e e) (fi [] y y) (gW st.h f j) i:=by
  intro j i m p;rcases mu st.h f j with⟨id,b,k,n,o,R⟩|⟨k,_⟩|⟨k,n⟩
  ·rw[R];rw[k] at m;cases m with|ref s am=>
   rw[o] at s;cases s;obtain⟨rfl,rfl,rfl⟩:=ait.1 am;obtain⟨c1,J,H⟩:=T id n;rw[o] at J;cases J;have F:∀v a,bb O C.B v a->bb (λa=>O a\/∃id∈f,∃b,ar st.h id=Y b/\a∈y id) C.B v a:=by
    intro v a l;cases v
    ·exact .inl l
    exact l.imp .inl (λc=>c)
   have I:=(u.tree id b o).1;have z:∀a∈y id,bb (λa=>O a\/∃id∈f,∃b,ar st.h id=Y b/\a∈y id) C.B .bg a:=λa l=>.inr ⟨id,n,b,o,l⟩;obtain⟨d,t⟩:=b;by_cases an:∃r,d=.optr r
   ·obtain⟨r,rfl⟩:=an;obtain⟨a,A,bx,N,aq,a4,bl,P,bs,Q⟩:=I;show cN _ _ _ _ _ (.val (.ptr .bg (jJ r)) (Y (nA r t))) _;have aq:e id=[.pointer (Y ⟨a,A,bo⟩)]:=aq;rw[aq];refine .val (τ:=.ptr .bg (jJ r)) (x:=Y (nA r t)) (cs:=[.pointer (Y ⟨a,A,bo⟩)]) ⟨bn,a,A,N,bn,z a (by grind),by grind [sM],P,vr F H Q (λM ce=>z M (by grind))⟩
   have av:cX d (e id)=cX (jJ d) (e id):=(by cases d<;>rfl);have a0:rm ⟨d,t⟩=.val (jJ d) (nA d t):=by cases d<;>first|rfl|grind
   have ap:rk d=bp:=by cases d<;>first|exact H|grind
   rw[a0];show cN _ _ _ _ _ _ (cX d (e id));rw[av];exact .val (vr F ap I z)
  ·rw[k];exact .dead _
  grind [Fz]
 cases j with
 |fe cv=>
  cases m with|fe ci U=>
  cases p with|fe co V=>
  refine .fe (by grind) (λL a3 i k n=>?_);rw[jg] at k;obtain⟨D,o,rfl⟩:=fD.1 k;exact E D i (U L D i o n) (V L _ i (by grind) n)
 |_=>exact E _ _ m p
theorem gJ.NE (t:gJ C st G w) (y:∀a,x6 (gt i.g a) (gt st.g a)) (J:∀id,ar i.h id=ar st.h id):gJ C i G w:=by
 obtain⟨k,n,l,d⟩:=t;refine⟨k,n,l,{d with tree:=λid e p=>d.tree id e (by grind),dis:=λj D e F L M=>d.dis j D e F (by grind) (by grind),tmp:=λa=>?_}⟩;have P:∀(b:ak) (f:Value),cN (bb k C.B) w st.h n l b f->cN (bb k C.B) w i.h n l b f:=λb f v=>
  v.s3 (λO H x=>⟨x,cq _ _⟩) (λid _ e p=>⟨by grind,bn,bn,(d.tree id e p).1,λ_ _=>cq _ _⟩)
 have m:=d.tmp a;rcases y a with c|c|⟨N,E,aq,q,r,s⟩
 ·rw[c];exact .dead _
 ·grind
 rw[aq];rw[q] at m;generalize G.getD a bW=f at m;cases m with|fe z K=>
 refine .fe (r.trans z) (λj b f u I=>?_);obtain⟨o,A⟩:∃o,E[j]?=some o:=(by grind);rcases s j b o u A with c|c
 ·rw[c];exact .dead _
 grind
def gJ.less (b:gJ C st G w) (c:∀a,gt i.g a=.dead\/gt i.g a=gt st.g a) (d:∀id,ar i.h id=ar st.h id):gJ C i G w:=
 b.NE (λa=>(c a).imp id .inl) d
end
def rN:Op->bm bM
 |.build _ c=>c.toList.map (·.2)
 |.buildSlice _ _ c=>c.toList.map (·.2)
 |.store _ _ a=>[a]
 |.mapUpdate _ _ _ a=>[a]
 |.insert _ _ _ a=>[a]
 |.entryStore _ _ _ a=>[a]
 |.box _ a=>[a]
 |.assign a=>[a]
 |.call b=>match b.callee with
  |.value _=>b.args.toList
  |.builtin .append=>b.args.toList.drop 1
  |_=>[]
 |_=>[]
def uW (b:bR):X:=match b.dst with
 |some a=>a
 |none=>999999
def mv (a:ah0) (c:X) (b:bM->ak):bm bM->ahY
 |[]=>[]
 |x::d=>match b x with
  |.ref id []=>bif a.any (λe=>bH e.1 c&&bH e.2 id) then id::mv a c b d else mv a c b d
  |_=>mv a c b d
end
section
theorem GH {c d:bm b} (e:m<=a) (f:a<=c.length):(jk c d m a).length=c.length:=by grind [aiz,aib,alu,jk]
theorem L0 {d e:bm b} (f:a<=m) (g:m<=d.length) (c:X):(jk d e a m)[c]?=if a<=c/\c<a+min e.length (m-a) then e[c-a]? else d[c]?:=by grind [jk]
def qU {k:Type} (tt:bm (bF×ah)) (d:bm (X×aF)) (f:X) (l:bF) (m j:ak) (e:cI->bv k):bv k:=
 match gX tt l with
 |none=>bo
 |some i=>match m with
  |.ref id []=>match ar d id with
   |some ⟨.osl a,b⟩=>bif a7 i a&&bH a.size 1&&a.pure then
    (lj d a j).bind λc=>e ⟨Y (f,.val (.int .i64) ((min c.length (b.length-0):X):Z)),[id],[(id,[])],[(id,⟨.osl a,jk b c 0 b.length⟩)]⟩
    else bo
   |_=>bo
  |.view id [] h g=>match ar d id with
   |some ⟨.osl a,b⟩=>bif a7 i a&&bH a.size 1&&a.pure then
    (lj d a j).bind λc=>e ⟨Y (f,.val (.int .i64) ((min c.length (g-h):X):Z)),[id],[(id,[])],[(id,⟨.osl a,jk b c h g⟩)]⟩
    else bo
   |_=>bo
  |_=>bo
def cI.SQ {b:bm (X×bm aZ)} {st:aO}:(cI.mk (Y (a,d)) f b e).app st=⟨(a,d)::aij f b st.g,e++del f st.h⟩:=by show aO.mk ((a,d)::nF f b st.g) (e++q5 f st.h)=_;rw[sQ,w7]
section
variable {E:fB} {C:eX} {st:aO} {a:Act} {w:bD} {I:X->Prop} {rt:X->ahS} {fp:X->ahY} {o:bR}
def Ks (e:cM C st a.tmps w I rt fp) {b:bm k.den} (c:lj st.h k (aT st.g n)=Y b):yA I C.B w k (a.eval n) b:=by
 refine vH e ?_;have:=A9 c;generalize rQ st.h k (aT st.g n)=i at this;cases i with
 |e4 l=>exact this.symm
 |part m o j=>obtain⟨f,d,rfl⟩:=this;exact⟨f,d,bn⟩
 |bad=>exact this.elim
theorem GG (co:cM C st a.tmps w I rt fp) {eq:b} {dl:cI->bv b} {y:X} (gs:o.op=.call {callee:=.builtin .copy,args:=#[n,N],argTypes:=#[c,r]}) (f8:o.dst=Y y) (f9:C.ok y) {next:Act->bD->Prop} {d0:b5->Act->bD->Prop} (go:∀ex a3 w',(∃s,dl s=Y eq/\ex=s.app st)->a3.defers=a.defers->gJ C ex a3.tmps w'->next a3 w') (f5:gX E.tt c=Y Q) (gl:a7 Q k=bp) (G:k.size=1) (V:k.pure=bp) {id e:X} {j i:bm k.den} (am:ar st.h id=Y ⟨.osl k,j⟩) (ce:m<=e) (ci:e<=j.length) (hr:yA I C.B w k (a.eval N) i) {a4:bv Addr} {d1:X} (hc:a.eval n=.slice a4 (e-m) d1) (hi:e-m=0\/∃d p L,rt id=[.slice (Y ⟨d,p,bo⟩) j.length L]/\a4=Y ⟨d,p+m,bo⟩) (f2:dl ⟨Y (y,.val (.int .i64) ((min i.length (e-m):X):Z)),[id],[(id,[])],[(id,⟨.osl k,jk j i m e⟩)]⟩=Y eq):o.wp E.P a w next d0:=by
 obtain⟨f,ds,aw,d7,f0⟩:=gX.ok f5;have f1:=f0.lay gl;obtain⟨nd,_,ap,_⟩:=f1.info;obtain⟨fn,n7,of⟩:=co.tree id _ am;obtain⟨fs,kd,d3,hv,cv,lo⟩:=hr;have d2:∀w':bD,w'.heap.size=w.heap.size->w'.os=w.os->w'.tape=w.tape->w'.output=w.output->(∀d,d∉fp id->w'.heap[d]?=w.heap[d]?)->(∀d,iS w' d=iS w d)->aR (bb I C.B) w' (.osl k) (rt id) (jk j i m e) (fp id)->
  (Builtin.copy_ #[c,r] o.type #[a.eval n,a.eval N]).run E.P w=.ok (goInt ((min i.length (e-m):X):Z)) w'->o.wp E.P a w next d0:=by
  intro w' i0 i1 i2 i3 i8 jp nx ad;have ad:(bL a.eval o).run E.P w=.ok (.value (goInt ((min i.length (e-m):X):Z))) w':=(by simp only[bL,gs,aiG,invoke,aiW,bY,cw,b1,akw,ie,ajb,ad]);have gt:=co.eB (S:=[id]) (keep:=[(id,[])]) (new:=[(id,⟨.osl k,jk j i m e⟩)]) (rtn:=rt) (fpn:=fp) (w':=w') (I':=I)
   ⟨Nat.le_of_eq i0.symm,i1,i2,i3,λd lk f4=>i8 d (f4 id ac _ am),λd _=>.of_eq (jp d),λ_ M=>M,λ_ M=>.inl M,(by
    intro f fl t;rw[dh] at t;split at t
    ·grind
    ·cases t),(by
    intro f g ol on t c1 lt;rw[dh] at t c1;split at t
    ·split at c1
     ·omega
     cases c1
    ·cases t),(by
    intro s O fl an;simp only[gd] at O;subst O;have an:ar st.h id=Y fl:=an;rw[am] at an;obtain rfl:=gC an;exact⟨⟨.osl k,jk j i m e⟩,by rw[dh,au bn],bn,bn,⟨_,bn⟩,λno _ _ _ T=>by grind [D9]⟩),(by
    grind [uK,ah4])⟩
  unfold aic;rw[ad];show next (a.put o.dst _) w'
  rw[f8];have V:=gt.put f9 (av:=.val (.int .i64) ((min i.length (e-m):X):Z)) (v:=goInt ((min i.length (e-m):X):Z)) (.val (τ:=.int .i64) (cs:=[.int .i64 _]) ⟨bn,bn⟩);have hrel:gJ C ((cI.mk (Y (y,.val (.int .i64) ((min i.length (e-m):X):Z))) [id] [(id,[])] [(id,⟨.osl k,jk j i m e⟩)]).app st) (a.put (Y y) (goInt ((min i.length (e-m):X):Z))).tmps w':=(by rw[cI.SQ];exact⟨I,_,_,V⟩);exact go _ _ _ ⟨_,f2,bn⟩ rfl hrel
 have mp:Nat.min i.length (e-m)=min i.length (e-m):=rfl;by_cases T:min i.length (e-m)=0
 ·have ll:jk j i m e=j:=by
   apply hM;intro f;rw[L0 ce ci,ax aa]
  refine d2 w bn rfl rfl rfl (λ_ _=>rfl) (λ_=>rfl) (by grind) ?_;rw[hc,hv,T];exact run_copy_none w c r o.type ds a4 fs _ _ _ _ d7 (by rw[ap.info];simp[ap.size,G]) aa
 rcases hi with lf|⟨d,p,L,el,rfl⟩
 ·omega
 rw[el] at fn;obtain⟨kg,le,aq,fT⟩:=fn;simp only[hL,ah7,b9] at aq;obtain⟨rfl,_,rfl⟩:=aq;rcases fT with⟨bl,_⟩|⟨lb,nn,D,bl,ek,d4,d5,bx,d6⟩
 ·cases bl
 cases bl;have d5:j.length<=L:=d5;have d4:D.length=j.length:=d4;have gf:D.flatten=[]:=Hz (λbs R=>by
  obtain⟨f,t,rfl⟩:=ht.1 R;have mo:f<j.length:=aa;obtain⟨A,_,_,z⟩:=d6 f j[f] D[f] ac ac;exact z.pure V)
 rw[gf] at ek;obtain⟨c2,ic,ii,io,is⟩:=cv.cells aa;rw[G,ajy] at ic;have hs:i≠[]:=λs=>(by grind);obtain⟨a0,rfl⟩:∃a0,fs=some a0:=by
  rcases cv.2 with M|⟨lc,ne,rfl,_⟩
  ·grind
  grind
 let l:=c2.take (min i.length (e-m))
 have f6:l.length=min i.length (e-m):=(by grind);have f7:∀g v,l[g]?=Y v->c2[g]?=Y v:=λg v q=>by
  rw[akm] at q;split at q
  ·exact q
  grind
 have d9:∀g,g<l.length->(w.cell? ⟨d,p+m+g,bo⟩).isSome=bp:=λg q=>(bx (p+m+g) aa (by grind)).1;have ad:=run_copy_cells (P:=E.P) w c r o.type ds d (p+m) (e-m) d1 a0 i.length kd l d7 (by rw[ap.info];simp[ap.size,G]) (by rw[f6]) (λg v q=>io a0 bn hs g v (f7 g v q)) d9 (λg q=>(bx (p+m+g) aa (by grind)).2) (λv x=>ii v (vY x));have d8:d∈fp id:=(by grind);have f3:∀J u,bb I C.B J u->u≠d:=λJ u U s=>co.notM am d d8 J (s▸U);refine d2 (w.setCells d (p+m) l) (tm d l _ w) (pe d l _ w).1 (pe d l _ w).2.1 (pe d l _ w).2.2 (λu T=>xX d l _ w u (λs=>T (s▸d8))) (λu=>Ad _ _ _ _ _) ?_ ?_
 ·rw[el,ek];refine⟨Y ⟨d,p,bo⟩,L,by rw[GH ce ci],.inr ⟨d,p,bJ j.length [],bn,by rw[Hz (λbs R=>List.eq_of_mem_replicate R)],by grind [GH],by grind [GH],?_,?_⟩⟩
  ·intro g hw ib;obtain⟨or,oN⟩:=bx g hw ib;grind [JJ,alh]
  intro f K bs H R;have ge:bs=[]:=(by grind);subst ge;rw[L0 ce ci] at H;have em:∀{A:ahS} {K:k.den},aR (bb I C.B) w k A K []->aR (bb I C.B) (w.setCells d (p+m) l) k A K []:=λF=>F.mono (λJ u U=>⟨U,rH (f3 J u U)⟩) ac;split at H
  ·rename_i mc;have q:f-m<l.length:=aa;have gi:d3[f-m]?=Y []:=by
    have mt:f-m<d3.length:=(by rw[cv.1];omega);grind [List.flatten_eq_nil_iff,b7,bS]
   have F:=is (f-m) K [] H gi;rw[G,ajy] at F;have gc:(c2.drop (f-m)).take 1=[l[f-m]]:=(by grind [List.drop_eq_getElem_cons]);rw[gc] at F;refine⟨[l[f-m]],by grind,?_,em F⟩;intro g v x;cases g with
   |zero=>
    simp only[qy,eR] at x;subst x;have:=ajW d l (p+m) w d9 (f-m) q;rw[<-this,G];congr 2;omega
   |succ g=>grind
  rename_i mz;have l2:f<j.length:=(hF.1 H).1;obtain⟨A,ft,fz,z⟩:=d6 f K (D[f]'(by omega)) H ac
  have O:D[f]'(by omega)=[]:=z.pure V
  rw[O] at z;refine⟨A,ft,?_,em z⟩;intro g v x;have:=fz g v x;grind [akA,aiF]
 grind
theorem eZ.copy {K:b} {F:cI->bv b} (A:o.op=.call {callee:=.builtin .copy,args:=#[n,N],argTypes:=#[c,r]}) (v:o.dst=Y m) (x:C.ok m) (d:qU E.tt st.h m c (aT st.g n) (aT st.g N) F=Y K):eZ E C o st (λT=>∃J,F J=Y K/\T=J.app st):=by
 rintro a w ⟨I,rt,fp,f⟩ next am z
 have k:=f.aT n;unfold qU at d;split at d
 ·cases d
 rename_i L B;split at d
 ·rename_i id u;split at d
  case h_2=>cases d
  rename_i j M i;cases e:(a7 L j&&bH j.size 1&&j.pure) with
  |false=>grind
  |true=>
  rw[e] at d;simp only[cC] at e;obtain⟨V,q,d⟩:=eO.1 d;rw[u] at k;generalize p:a.eval n=U at k;cases k with|ref l y=>
  rw[i] at l;cases l;obtain⟨rfl,rfl,rfl⟩:=ait.1 y;have D:=(f.tree id _ i).1;obtain⟨G,H,aq,O⟩:=D;have Q:a.eval n=.slice G (M.length-0) H:=(by rw[p,aq];rfl);refine GG f A v x z B e.1.1 (fv e.1.2) e.2 i (c8 _) (bc _) (Ks f q) Q ?_ d;grind
 ·rename_i id a4 av u;split at d
  case h_2=>cases d
  rename_i j M i;cases e:(a7 L j&&bH j.size 1&&j.pure) with
  |false=>grind
  |true=>
  rw[e] at d;simp only[cC] at e;obtain⟨V,q,d⟩:=eO.1 d;rw[u] at k;generalize p:a.eval n=U at k;cases k with|me=>(exact GG f A v x z B e.1.1 (fv e.1.2) e.2 i (bc _) (c8 _) (Ks f q) p (.inl bn) d)|view l y R S a0=>
  rw[i] at l;cases l;rename_i ad bl an bs a3 H;obtain⟨s,_,t⟩:=ait.1 y;have s:ah.osl j=ah.osl ad:=s;cases s;have P:=fv e.1.2;have D:=(f.tree id _ i).1;obtain⟨G,ap,aq,O⟩:=D;rw[aq] at t;simp only[hL,ah7,b9] at t;obtain⟨rfl,rfl,rfl⟩:=t;refine GG f A v x z B e.1.1 P e.2 i R S (Ks f q) p ?_ d;grind
 grind
end
end
section
def aX.cells {w q:bD} (e:∀a,q.cell? a=w.cell? a):∀{p:bm aZ} {τ r:ah} {m n:Loc} {f g:ahS},aX w τ m f p r n g->aX q τ m f p r n g
 |[],τ,_,_,_,_,_,c=>by cases τ<;>exact c
 |s::p,τ,r,m,n,f,g,c=>by
  have u:∀{b o:X} {d:ahS},fr w b o d->fr q b o d:=λy A C z=>(by rw[e];exact y A C z);cases τ<;>cases s<;>simp only[aX] at c
  case osl.idx t i=>
   obtain⟨b,o,B,v,d,h,j,k,l,x⟩:=c;exact⟨b,o,B,v,d,h,j,k,u l,x.cells e⟩
  case optr.deref t=>
   obtain⟨b,o,d,h,j,k,l⟩:=c;exact⟨b,o,d,h,j,u k,l.cells e⟩
  case st.unst t=>exact aX.cells e (τ:=t) c
  case pr.fst a b=>exact aX.cells e (τ:=a) c
  case pr.snd a b=>exact aX.cells e (τ:=b) c
theorem adM (a:ah):fm a []=Y a:=by cases a<;>rfl
theorem aX.x2 {w:bD} {r:bm aZ}:∀{p:bm aZ} {τ c:ah} {m n:Loc} {e f:ahS},aX w τ m e p c n f->fm τ (p++r)=fm c r
 |[],τ,_,_,_,_,_,a=>by grind [ait]
 |s::p,τ,_,_,_,_,_,a=>by
  cases τ<;>cases s<;>simp only[aX] at a
  case osl.idx t i=>obtain⟨d,o,u,q,g,h,j,k,b,l⟩:=a;exact l.x2
  case optr.deref t=>obtain⟨d,o,g,h,j,k,b⟩:=a;exact b.x2
  case st.unst t=>exact aX.x2 (p:=p) (τ:=t) a
  case pr.fst t1 t2=>exact aX.x2 (p:=p) (τ:=t1) a
  case pr.snd t1 t2=>exact aX.x2 (p:=p) (τ:=t2) a
section
variable {E:fB} {C:eX} {st:aO} {a:Act} {A:ahQ} {w:bD} {I:X->Prop} {rt:X->ahS} {fp:X->ahY} {o:bR} {Q:aO->Prop}
def L8:∀{p q:bm aZ},kW (p++[.deref]) q=bp->kW p q=bp
 |[],q,a=>by
  cases q with
  |nil=>cases a
  |cons s q=>
   cases s<;>cases a
 |s::p,[],a=>by cases s<;>cases a
 |s::p,b::q,a=>by cases s<;>cases b<;>first|(cases a;done)|exact L8 (p:=p) (q:=q) a|rfl
theorem cM.Em (v:cM C st A w I rt fp) {id:X} (t:ar st.h id=Y P) {d7:ah} {ad:Loc} (N:aX w P.1 bo (rt id) j d7 ad R) {T:bm (Z×k.den)} (cv:eN P.1 P.2 j (.mp k) (Y (T,m))):∃a E D,R=[.map (Y a)]/\a∈fp id/\(∀q b,bb I C.B q b->b≠a)/\hk (bb I C.B) w k a T m E D/\∀{e:bU cn} {c:X} {z:bm (Z×k.den)} {K:bm (Z×X×k.den)} {p:P.1.den},hk (bb I C.B) (gQ w a e c) k a z c e K->kO w (gQ w a e c) a->fa P.1 P.2 j (.mp k) (Y (z,c)) p->∃d6 a0,cM C ⟨aij [id] [(id,j++[.deref])] st.g,(id,⟨P.1,p⟩)::del [id] st.h⟩ A (gQ w a e c) I d6 a0:=by
 obtain⟨d0,Q,co⟩:=v.tree id P t;obtain⟨f5,ek,em,d5,a3,a4,bl,L,eq,bs,bx⟩:=zU j (loc:=bo) d0 (λ_ _ i=>by cases i) Q (λ_ _ i=>by cases i) (v.notM t) cv;obtain⟨an,aq,ap⟩:=N.lB a3;subst an;subst aq;subst ap;obtain⟨a,E,D,rfl,rfl,F⟩:=a4.Od;have G:a∈fp id:=L.mem_iff.2 ac;have ci:∀q b,bb I C.B q b->b≠a:=λq b f n=>v.notM t a G q (n▸f);refine⟨a,E,D,bn,G,ci,F,?_⟩;intro e c z K p ce fl S;have O:=L.nodup_iff.1 Q;rw[jR] at O;have fT:∀b∈d5,b≠a:=λb f n=>O.2.2 a ac b f n.symm;have x:=acL (es':=e) (c':=c) F.h;have cs:=acM (es':=e) (c':=c) F.h;have d2:∀b,b≠a->c5 w (gQ w a e c) b:=λb f=>Ff f;obtain⟨el,av,f0,_,d3,_,f3,_,f1⟩:=bs (gQ w a e c) (bb I C.B) [.map (Y a)] (Y (z,c)) [a] p (λ_ _ i=>i) (λb f=>by
   have c1:b≠a:=by
    rcases f with⟨q,ft⟩|f|⟨o,fz⟩
    ·grind
    ·grind
    grind
   exact⟨λu _=>x _,λu=>cs _,λu=>by rw[x],(d2 b c1).2⟩)
  (aR.Oe ce) (λ_ _=>rfl) (λam d4 n=>by
   have:=(bl am d4 n).1;exactλu V s=>by rw[x];exact this u V s) S
 obtain rfl:=d3 bn (.inr bn);have fs:=(co a G).2.2.1;have d:ni C st w (gQ w a e c) I I rt fp [id] [(id,j++[.deref])] [(id,⟨P.1,p⟩)] (λ_=>rt id) (λ_=>av):=by
  refine⟨by grind [Qx],bn,bn,bn,?_,?_,λ_ i=>i,λ_ i=>.inl i,?_,?_,?_,?_⟩
  ·grind [AX]
  ·intro b _;by_cases n:b=a
   ·grind
   exact .of_heap (AX n)
  ·intro H J d;rw[dh] at d;split at d
   ·grind [Qx]
   cases d
  ·intro H u J V l s fn;rw[dh] at l s;split at l
   ·split at s
    ·omega
    cases s
   cases l
  ·intro H l J d;simp only[gd] at l;subst l;rw[t] at d;obtain rfl:=gC d;refine⟨⟨P.1,p⟩,by rw[dh,au bn],bn,bn,?_,λU gc f6 d9 _ ds=>ds.cells x⟩;have ex:=N.x2 (r:=[.deref]);grind [adM,fm]
  intro H l J d U f9 f8 f4 d8 f2 y dl c2 M d1;simp only[gd] at l;subst l;rw[t] at d;obtain rfl:=gC d;have y:=L8 y;refine⟨⟨P.1,p⟩,by rw[dh,au bn],uL y S M,λb f=>?_⟩;obtain⟨aw,f7⟩:=bx U _ _ _ _ _ y (by exact dl) M c2 d1 b f;grind
 exact⟨_,_,v.eB d⟩
def xC {α:Type} (c:bv (bm (Z×α)×X)) (b:Z) (d:α):bv (bv (bm (Z×α)×X)):=match c with
 |none=>bo
 |some a=>Y (Y (kD a.1 b d,bif (gk a.1 b).isSome then a.2 else a.2+1))
def om {f:Type} (tt:bm (bF×ah)) (i:bm (X×aF)) (h:bF) (n d m:ak) (g:cI->bv f):bv f:=
 match n with
 |.ref id c=>match ar i id with
  |some a=>match k3 tt h,d,m with
   |some l,.val (.int .i64) d,.val p e=>match fm a.1 c with
    |some (.mp b)=>bif a7 l b then match hZ b e with
     |some e=>(h0 a.1 a.2 c (.mp b)).bind λj=>(xC (α:=b.den) j d e).bind λk=>(mD a.1 a.2 c (.mp b) k).bind λo=>g ⟨bo,[id],[(id,c++[.deref])],[(id,⟨a.1,o⟩)]⟩
     |none=>bo
     else bo
    |_=>bo
   |_,_,_=>bo
  |none=>bo
 |_=>bo
def WT {α:Type} (c:bv (bm (Z×α)×X)) (b:Z):bv (bv (bm (Z×α)×X)):=match c with
 |none=>bo
 |some a=>Y (Y (jc a.1 b,a.2))
def rv {e:Type} (tt:bm (bF×ah)) (h:bm (X×aF)) (g:bF) (l d:ak) (f:cI->bv e):bv e:=
 match l with
 |.ref id b=>match ar h id with
  |some a=>match k3 tt g,d with
   |some k,.val (.int .i64) d=>match fm a.1 b with
    |some (.mp c)=>bif a7 k c then
     (h0 a.1 a.2 b (.mp c)).bind λi=>(WT (α:=c.den) i d).bind λj=>(mD a.1 a.2 b (.mp c) j).bind λm=>f ⟨bo,[id],[(id,b++[.deref])],[(id,⟨a.1,m⟩)]⟩
     else bo
    |_=>bo
   |_,_=>bo
  |none=>bo
 |_=>bo
theorem Og {A:b} {r:cI->bv b} {f:bM} (j:o.op=.mapUpdate c f n N\/o.op=.insert c f n N) (T:o.dst=bo) (d:om E.tt st.h c (aT st.g f) (aT st.g n) (aT st.g N) r=Y A):eZ E C o st (λc1=>∃t,r t=Y A/\c1=t.app st):=by
 rintro a w ⟨I,rt,fp,i⟩ next d4 am
 have p:=i.aT f;have e:=i.aT n;have m:=i.aT N;unfold om at d;split at d
 case h_2=>cases d
 rename_i id d8 H;split at d
 case h_2=>cases d
 rename_i fn y;split at d
 case h_2=>cases d
 rename_i ds k fl eq S D G;obtain⟨d0,d3,c2,dl,d9⟩:=k3.ok S;split at d
 case h_2=>cases d
 rename_i q ap;cases u:a7 ds q with
 |false=>grind
 |true=>
 rw[u] at d;simp only[bG] at d;split at d
 case h_2=>cases d
 rename_i em a3;obtain⟨bx,V,K⟩:=eO.1 d;obtain⟨d7,v,L⟩:=eO.1 K;obtain⟨ex,a4,M⟩:=eO.1 L;cases bx with
 |none=>cases v
 |some ce=>
 obtain⟨bl,s⟩:=ce;cases v;cases ka a3;rw[H] at p;rw[D] at e;rw[G] at m;generalize a0:a.eval f=el at p;generalize ad:a.eval n=d6 at e;generalize av:a.eval N=ek at m;cases e with|val cs=>
 obtain⟨_,rfl⟩:=cs;cases m with|val B=>
 cases p with|ref z x=>
 rw[y] at z;cases z;obtain⟨l,d5,d1,rfl,u,Q,O,U⟩:=i.Em y x (iL V);have:=x.ty;rw[ap] at this;cases this;obtain⟨F,d2,aw,ci,co⟩:=O.update (P:=E.P) c2 dl k B.len B;obtain⟨cv,J,R⟩:=U (ci (λbs n e=>⟨e,Q bs n e⟩)) co (m3 a4);unfold aic;have an:(bL a.eval o).run E.P w=.ok .skip (gQ w l F (bif (gk bl k).isSome then s else s+1)):=by
  have this:∀q:ah,cX (.mp q) [ajt (Y l)]=.map (Y l):=λ_=>rfl;rcases j with j|j<;>
  ·simp only[bL,j,a0,ad,av,bY];rw[this,show cX (.int .i64) [aie .i64 k]=.int .i64 k from rfl,aw];rfl
 rw[an];show next (a.put o.dst bW) _
 rw[T];refine am _ _ _ ⟨_,M,?_⟩ rfl ⟨I,cv,J,R⟩;rfl
theorem W4 {x:b} {m:cI->bv b} (U:o.op=.call {callee:=.builtin .delete,args:=#[N,n],argTypes:=#[c,r]}) (O:o.dst=bo) (d:rv E.tt st.h c (aT st.g N) (aT st.g n) m=Y x):eZ E C o st (λbx=>∃p,m p=Y x/\bx=p.app st):=by
 rintro a w ⟨I,rt,fp,i⟩ next dl T
 have j:=i.aT N;have e:=i.aT n;unfold rv at d;split at d
 case h_2=>cases d
 rename_i id d3 B;split at d
 case h_2=>cases d
 rename_i d7 u;split at d
 case h_2=>cases d
 rename_i co k M z;obtain⟨cs,c2,ce,ci,d4⟩:=k3.ok M;split at d
 case h_2=>cases d
 rename_i l ad;cases q:a7 co l with
 |false=>grind
 |true=>
 rw[q] at d;simp only[bG] at d;obtain⟨av,R,F⟩:=eO.1 d;obtain⟨d2,s,G⟩:=eO.1 F;obtain⟨d6,an,H⟩:=eO.1 G;cases av with
 |none=>cases s
 |some a0=>
 obtain⟨d1,y⟩:=a0;cases s;rw[B] at j;rw[z] at e;generalize am:a.eval N=d5 at j;generalize S:a.eval n=d0 at e;cases e with|val bl=>
 obtain⟨_,rfl⟩:=bl;cases j with|ref v t=>
 rw[u] at v;cases v;obtain⟨f,ds,cv,rfl,q,K,J,Q⟩:=i.Em u t (iL R);have:=t.ty;rw[ad] at this;cases this;obtain⟨A,c1,aw,a3,a4⟩:=J.delete (P:=E.P) ce ci k o.type r;obtain⟨bs,D,L⟩:=Q (a3 (λap n e=>⟨e,K ap n e⟩)) a4 (m3 an);unfold aic;have V:(bL a.eval o).run E.P w=.ok (.value (.tuple #[])) (gQ w f A y):=(by simp only[bL,U,aiG,invoke,aiW,bY,cw,b1,akw,ie,ajb,am,S];have this:∀l:ah,cX (.mp l) [ajt (Y f)]=.map (Y f):=λ_=>rfl;rw[this,show cX (.int .i64) [aie .i64 k]=.int .i64 k from rfl,aw];rfl);rw[V];show next (a.put o.dst (.tuple #[])) _
 rw[O];refine T _ _ _ ⟨_,H,?_⟩ rfl ⟨I,bs,D,L⟩;rfl
def vj (c:bm (X×aF)) (f g:ak):bv (X×bm aZ×X×aF):=match f,g with
 |.ref id (e::d),.ref a []=>match ar c a with
  |some b=>match b.1 with
   |.osl h=>match h.pure with
    |true=>bo
    |false=>Y (id,e::d,a,b)
   |_=>bo
  |none=>bo
 |_,_=>bo
def yD {h:Type} (tt:bm (bF×ah)) (e:bm (X×aF)) (b:X) (j:bF) (id:X) (c:bm aZ) (f:X) (k:aF) (i:cI->bv h):bv h:=
 match gX tt j,ar e id,ar e b with
 |some l,Y d,bo=>match fm d.1 c with
  |some (.osl a)=>match hZ (.osl a) k.2 with
   |some g=>bif a7 l a&&(b2 a.size 1300&&(a.kF&&!(bH f id))) then
    (h0 d.1 d.2 c (.osl a)).bind λm=>(cD (aia (α:=a.den) m+aia (α:=a.den) g)).bind λ_=>i ⟨Y (b,.app id c a g [b,f]),[id],[(id,c),(id,[])],[(b,⟨.eL,()⟩),(id,d)]⟩
    else bo
   |none=>bo
  |_=>bo
 |_,_,_=>bo
def n6 {g:Type} (tt:bm (bF×ah)) (h:bm (X×ah)) (a:bm (X×aF)) (d:X) (c:bF) (e f:ak) (b:cI->bv g):bv g:=match vj a e f with
 |some (id,j,i,k)=>yD tt a d c id j i k b
 |none=>oT tt h a d c e f b
theorem Jf {id:X} (a:vj e d t=Y (id,j,m,P)):d=.ref id j/\t=.ref m []/\ar e m=Y P:=by unfold vj at a;grind
theorem SN {A:b} {s:cI->bv b} (y:o.op=.call {callee:=.builtin .append,args:=#[N,n],argTypes:=#[c,c]}) (v:o.dst=Y m) (x:C.ok m) (d:n6 E.tt l st.h m c (aT st.g N) (aT st.g n) s=Y A):eZ E C o st (λce=>∃f,s f=Y A/\ce=f.app st):=by
 unfold n6 at d;split at d
 case h_2=>exact eZ.app y v x (SK d (λf p=>⟨f,p,bn⟩))
 rename_i id dl e ci am;obtain⟨M,O,q⟩:=Jf am;unfold yD at d;split at d
 case h_2=>cases d
 rename_i co d4 K av L;split at d
 case h_2=>cases d
 rename_i j c1;split at d
 case h_2=>cases d
 rename_i d2 a3;cases i:(a7 co j&&(b2 j.size 1300&&(j.kF&&!(bH e id)))) with
 |false=>grind
 |true=>
 rw[i] at d;simp only[cC] at i;obtain⟨R,ap,U,V⟩:=i;have V:e≠id:=λf=>(by simp_all);obtain⟨d1,a0,H⟩:=eO.1 d;obtain⟨_,S,J⟩:=eO.1 H;obtain⟨d3,D⟩:=ci;cases ka a3;rintro a w ⟨I,rt,fp,k⟩ next cs ad
 refine Le (S2:=[e]) y v x k ad K R (gT ap) U M av L (iL a0) ?_ ?_ (xw S) ⟨_,J,bn⟩
 ·have r:=k.aT n;rw[O] at r;generalize c2:a.eval n=d0 at r;cases r with|ref z T=>
  rw[q] at z;cases z;obtain⟨rfl,rfl,rfl⟩:=ait.1 T;obtain⟨bl,bx,ds⟩:=k.tree e _ q;have a4:=bl;obtain⟨t,u,an,cv⟩:=a4;have bs:aR (bb I C.B) w (.osl j) [.slice t (aia (α:=j.den) D) u] D (fp e):=(by grind);obtain⟨_,_,G,p,P,Q,_⟩:=kn.osl bs;exact⟨t,u,G,by rw[an];rfl,p,Q bx,λF i=>⟨e,ac,_,q,P F i⟩⟩
 grind
end
end
section
section
variable {P:b0} {w:bD} {b c:X} {A:bU cn} {M:eC->X->Prop} {t:ah} {l:bm (Z×t.den)} {L:bm (Z×X×t.den)}
theorem JK {d e:bU cn} (g:w.heap[b]?=Y (.map A c)) (f:gQ w b d a=gQ w b e m):d=e/\a=m:=by grind [ajd,Obj.map.injEq,oz]
theorem hk.Ll (h:hk M w t b l c A L) {g:cn} (i:A[a]?=Y g):∃d f,L[a]?=Y d/\g=⟨.int .i64 d.1,cX t f,d.2.1⟩:=by have j:a<L.length:=(by have:=(rR.1 i).1;rw[h.n] at this;omega);obtain⟨f,_,k,_⟩:=h.e a L[a] (ba j);grind
theorem hk.adS (f:hk M w t b l c A L) {d e:Z×X×t.den} (n:L[a]?=Y d) (o:L[m]?=Y e) (k:d.1=e.1):a=m:=by have h:=f.o7.nd;have g:a<(L.map (·.1)).length:=(by grind);apply(aku g h (i:=a) (j:=m)).1;grind
theorem hk.adR (f:hk M w t b l c A L) {e d:Z×X×t.den} (n:L[a]?=Y e) (o:L[m]?=Y d) (k:e.2.1=d.2.1):a=m:=by have h:=f.o7.2.2.1;have g:a<(L.map λd=>d.2.1).length:=(by grind);apply(aku g h (i:=a) (j:=m)).1;grind
theorem Oc {d:Type} {c:bU d} {e f:d->d} (g:∀b,c[a]?=Y b->e b=f b):c.modify a e=c.modify a f:=by grind
theorem hk.entry (d:hk M w t b l c A L) {z y:bF} {N:cu} (n:P.underlying r=Y (.map z y)) (g:P.underlying z=Y (.int N)) (a:Z) {x:t.den} (J:R.length=t.size) (F:aR M w t R x []) (K:∀w,(aih y).run P w=.ok (cX t R) w):∃(f:bU cn) (o:bm (Z×X×t.den)) (u:ahS) (p e:X),(alv r (.map (Y b)) (.int .i64 a)).run P w=.ok (.tuple #[cX t u,goInt ((p:X):Z)]) (gQ w b f (bif (gk l a).isSome then c else c+1))/\aR M w t u ((gk l a).getD x) []/\f[e]?=Y (akj (.int .i64 a) (cX t u) p)/\(∀{B:eC->X->Prop},(∀G a,M G a->B G a/\a≠b)->hk B (gQ w b f (bif (gk l a).isSome then c else c+1)) t b (kD l a ((gk l a).getD x)) (bif (gk l a).isSome then c else c+1) f o)/\kO w (gQ w b f (bif (gk l a).isSome then c else c+1)) b:=by
 rcases d.find (P:=P) g a with⟨v,I,s⟩|⟨e,p,T,q,v,I,s,Q,C,D⟩
 ·obtain⟨f,o,aw,i,j⟩:=d.update (P:=P) n g a J F;rw[v] at aw i j|-;simp only[alc,bP,Option.getD_none] at aw i j|-;have k:(aiN r (.map (Y b)) (.int .i64 a) (cX t R)).run P w=.ok () (gQ w b (A.push ⟨.int .i64 a,cX t R,c⟩) (c+1)):=by
   simp only[aiN,bY,b8 n,b1,ajz d.h,ox g,s];exact qg d.h
  rw[aw] at k;simp only[alw,ajo] at k;obtain⟨rfl,_⟩:=JK d.h k;refine⟨_,o,R,c,A.size,?_,F,by rw[Array.getElem?_push,au bn],i,j⟩;simp only[alv,bY,b8 n,b1,ajz d.h,ox g,s,K,qg d.h,cw];rfl
 obtain⟨f,o,aw,i,j⟩:=d.update (P:=P) n g a s C;rw[v] at aw i j|-;simp only[akt,bG,r5] at aw i j|-;have E:(ajs (((A[e]?).map (·.key)).getD (.int .i64 a)) (.int .i64 a)).run P w=.ok (.int .i64 a) w:=(by simp_all [ajs,ald]);have k:(aiN r (.map (Y b)) (.int .i64 a) (cX t q)).run P w=.ok () (gQ w b (A.modify e λm=>{m with key:=.int .i64 a,val:=cX t q}) c):=(by simp only[aiN,bY,b8 n,b1,ajz d.h,ox g,D,E];exact qg d.h);rw[aw] at k;simp only[alw,ajo] at k;obtain⟨rfl,_⟩:=JK d.h k;refine⟨_,o,q,p,e,?_,C,by grind,i,j⟩;have aq:(A.modify e λm=>{m with key:=.int .i64 a,val:=cX t q})=A.modify e λm=>{m with key:=.int .i64 a}:=Oc λm S=>(by grind);have H:((A[e]?).map λO=>((O.born:X):Z)).getD 0=(p:Z):=(by grind);simp only[alv,bY,b8 n,b1,ajz d.h,ox g,D,E,qg d.h,cw,aq,H];rfl
theorem hk.Up (f:hk M w t b l c A L) {e:cn} {d:Z} (y:A[a]?=Y e) (ci:e.key=.int .i64 d) {q F:bF} {ad:cu} (x:P.underlying r=Y (.map q F)) (k:P.underlying q=Y (.int ad)) {E:t.den} (K:R.length=t.size) (V:aR M w t R E []):∃i j,(amo r (.map (Y b)) (.int .i64 (e.born:Z)) (cX t R)).run P w=.ok () (gQ w b i (bif (gk l d).isSome then c else c+1))/\(∀{s:eC->X->Prop},(∀C d,M C d->s C d/\d≠b)->hk s (gQ w b i (bif (gk l d).isSome then c else c+1)) t b (kD l d E) (bif (gk l d).isSome then c else c+1) i j)/\kO w (gQ w b i (bif (gk l d).isSome then c else c+1)) b:=by
 obtain⟨D,a0,z,bx⟩:=f.Ll y;have cs:D.1=d:=(by grind);rcases f.find (P:=P) k d with⟨u,v,G⟩|⟨g,cv,c1,av,u,v,G,a4,bl,H⟩
 ·grind
 obtain rfl:g=a:=f.adS v z aa;obtain⟨i,j,aw,n,o⟩:=f.update (P:=P) x k d K V;rw[u] at aw n o|-;simp only[akt,bG] at aw n o|-;have T:(ajs (((A[g]?).map (·.key)).getD (.int .i64 d)) (.int .i64 d)).run P w=.ok (.int .i64 d) w:=(by simp_all [ajs,ald]);have p:(aiN r (.map (Y b)) (.int .i64 d) (cX t R)).run P w=.ok () (gQ w b (A.modify g λe=>{e with key:=.int .i64 d,val:=cX t R}) c):=(by simp only[aiN,bY,b8 x,b1,ajz f.h,ox k,H,T];exact qg f.h);rw[aw] at p;simp only[alw,ajo] at p;obtain⟨rfl,_⟩:=JK f.h p;refine⟨_,j,?_,n,o⟩;have aq:(A.modify g λe=>{e with key:=.int .i64 d,val:=cX t R})=A.modify g λe=>{e with val:=cX t R}:=Oc λa3 N=>(by grind);have O:A.findIdx? (λan=>(an.born:Z)==(e.born:Z))=Y g:=by
  rw[Array.findIdx?_eq_some_iff_getElem];have Q:=(rR.1 y).1;refine⟨Q,?_,λB ce co=>?_⟩
  ·grind
  have S:B<A.size:=aa;obtain⟨am,ap,U,N⟩:=f.Ll (Ba S);have bs:(A[B].born:Z)=(e.born:Z):=(by grind);have J:am.2.1=D.2.1:=(by grind);have:=f.adR U z J;omega
 have I:∀(m:Z) (w:bD),(asInt (.int .i64 m)).run P w=.ok m w:=λm w=>(by simp[asInt,ai7]);simp only[amo,bY,cw,b1,ajz f.h,I,O,qg f.h,aq];rfl
end
def rx {f:Type} (tt:bm (bF×ah)) (j:bm (X×aF)) (i:X) (h:bF) (m a:ak) (g:cI->bv f):bv f:=
 match m with
 |.ref id c=>match ar j id with
  |some b=>match k3 tt h,a with
   |some l,.val (.int .i64) a=>match fm b.1 c with
    |some (
     .mp t)=>match mf t with
     |some e=>bif a7 l t then
      (h0 b.1 b.2 c (.mp t)).bind λd=>(xC (α:=t.den) d a ((mB d a).getD e)).bind λk=>(mD b.1 b.2 c (.mp t) k).bind λn=>
       g ⟨Y (i,.fe [.val t ((mB (α:=t.den) d a).getD e),.ent id c a]),[id],[(id,c++[.deref])],[(id,⟨b.1,n⟩)]⟩
      else bo
     |none=>bo
    |_=>bo
   |_,_=>bo
  |none=>bo
 |_=>bo
def re {b:Type} (tt:bm (bF×ah)) (e:bm (X×aF)) (d:bF) (k i j:ak) (c:cI->bv b):bv b:=
 match k,i with
 |.ref id a,.ent f h g=>bif bH f id&&ma h a then om tt e d (.ref id a) (.val (.int .i64) g) j c else bo
 |_,_=>bo
theorem fa.k0:∀{p:bm aZ} {τ:ah} {e g:τ.den} {d:ah} {f:d.den},fa τ e p d f g->eN τ g p d f
 |[],τ,e,g,d,f,c=>by grind [eN.gw,fa.gw]
 |s::p,τ,e,g,d,f,c=>by
  cases τ<;>cases s<;>simp only[fa] at c
  case osl.idx t i=>
   obtain⟨l,h,j,c,rfl⟩:=c;have k:i<e.length:=(hF.1 j).1;exact⟨h,by rw[List.getElem?_set_self k],fa.k0 (p:=p) c⟩
  case optr.deref t=>exact fa.k0 (p:=p) (τ:=t) c
  case st.unst t=>exact fa.k0 (p:=p) (τ:=t) c
  case pr.fst a b=>obtain⟨h,c,rfl⟩:=c;exact fa.k0 (p:=p) c
  case pr.snd a b=>obtain⟨h,c,rfl⟩:=c;exact fa.k0 (p:=p) c
def No:∀a:bm aZ,g8 (a++[.deref]) a=bp
 |[]=>rfl
 |s::a=>by cases s<;>exact No a
theorem We (id:X) (a:bm aZ):fI [id] [(id,a++[.deref])] (.ref id a)=.ref id a:=by
 have:k4 [(id,a++[.deref])] (.ref id a)=bp:=by
  cases a with
  |nil=>simp[k4]
  |cons b a=>
   have:=No (b::a);simp_all [List.any_cons,List.any_nil,Bool.or_false,ajT,ajX,k4]
 show fc _ _ _=_;unfold fc;rw[show kf [id] [(id,a++[.deref])] (.ref id a)=k4 [(id,a++[.deref])] (.ref id a) from rfl,this];simp
def aaL {id:X} (a:aT T n=.ref id j):aT (aij [id] [(id,j++[.deref])] T) n=.ref id j:=by
 cases n with
 |tmp c=>
  have a:gt T c=.ref id j:=a;have b:=p2 [id] [(id,j++[aZ.deref])] T c;rw[a] at b;exact b.trans (We id j)
 |const d=>exact absurd a (by cases d<;>simp[aT])
 |global T=>cases a
 |func e=>cases a
section
variable {E:fB} {C:eX} {st:aO} {o:bR} {Q:aO->Prop}
theorem Xb {a:Act} (k:cM C i a.tmps v O x y) {id:X} (q:aT i.g N=.ref id j) (d:ar i.h id=Y P) {t:ah} {G:bm (Z×t.den)} (w:eN P.1 P.2 j (.mp t) (Y (G,m))) {b:X} (E:a.eval N=.map (Y b)) {f:bU cn} (A:v.heap[b]?=Y (.map f m)) {F:X} {c:cn} (z:f[F]?=Y c) {n:Z} (s:c.key=.int .i64 n):cN (bb O C.B) v i.h x y (.ent id j n) (.int .i64 (c.born:Z)):=by
 have e:=k.aT (a:=a) N;rw[q,E] at e;generalize M:ajt (Y b)=T at e;cases e with|ref o l=>
 rename_i S U R J;rw[d] at o;obtain rfl:=gC o;obtain⟨rfl,L,D,_,u⟩:=k.k0 d w l;rcases D.IB with⟨c,_⟩|⟨p,Q,I,K,H,_,rfl,rfl,_⟩
 ·cases c
 have r:b=p:=(by grind [cX]);subst r;exact .ent d l (u b ac) (nH.2 A) z s
theorem Xc {an:Type} {V:an} {x:cI->bv an} {m:bM} (dl:o.op=.mapEntry r m N) (bx:o.dst=Y a) (bs:C.ok a) (d:rx E.tt st.h a r (aT st.g m) (aT st.g N) x=Y V):eZ E C o st (λv=>∃D,x D=Y V/\v=D.app st):=by
 rintro j w ⟨p,ge,f5,q⟩ next f4 c2
 have s:=q.aT m;have e:=q.aT N;unfold rx at d;split at d
 case h_2=>cases d
 rename_i id d6 G;split at d
 case h_2=>cases d
 rename_i ap Q;split at d
 case h_2=>cases d
 rename_i fp n bl a3;obtain⟨f2,a0,ex,fl,fn⟩:=k3.ok bl;split at d
 case h_2=>cases d
 rename_i t d1;split at d
 case h_2=>cases d
 rename_i fs d2;cases M:a7 fp t with
 |false=>grind
 |true=>
 rw[M] at d;simp only[bG] at d;obtain⟨d5,co,f⟩:=eO.1 d;obtain⟨gc,k,i⟩:=eO.1 f;obtain⟨am,T,H⟩:=eO.1 i;clear d f i;cases d5 with
 |none=>cases k
 |some d7=>
 obtain⟨l,c⟩:=d7;rw[G] at s;rw[a3] at e;generalize S:j.eval m=gi at s;generalize cv:j.eval N=f9 at e;cases e with|val em=>
 obtain⟨_,rfl⟩:=em;cases s with|ref R O=>
 rw[Q] at R;cases R;obtain⟨b,A,L,rfl,f6,J,I,ci⟩:=q.Em Q O (iL co);have:=O.ty;rw[d1] at this;cases this;obtain⟨f8,f1,ft,fz,fT,f0⟩:=vK (fn.lay M) d2;have d3:∀w,(aih a0).run E.P w=.ok (cX t f1.cells.toList) w:=λw=>(by rw[<-fT];simp[aih,aiw,ft,fz]);have U:=f0 (bb p C.B) w;obtain⟨F,f3,z,v,f7,aw,d8,d9,ek,el⟩:=I.entry (P:=E.P) ex fl n U.len U d3;have c1:mB (α:=t.den) (Y (l,c)) n=gk l n:=rfl;rw[c1] at k H;simp only[xC,eR] at k;subst k;generalize(bif (gk l n).isSome then c else c+1)=y at*;generalize(gk l n).getD fs=ad at*;obtain⟨eq,a4,K⟩:=ci (ek (λu N e=>⟨e,J u N e⟩)) el (m3 T);have d0:(bL j.eval o).run E.P w=.ok (.value (.tuple #[cX t z,goInt ((v:X):Z)])) (gQ w b F y):=(by simp only[bL,dl,S,cv,bY];have this:∀t:ah,cX (.mp t) [ajt (Y b)]=.map (Y b):=λ_=>rfl;rw[this,show cX (.int .i64) [aie .i64 n]=.int .i64 n from rfl,aw];rfl);unfold aic;rw[d0];show next (j.put o.dst _) _
 rw[bx];have cs:ar ((id,(⟨ap.1,am⟩:aF))::del [id] st.h) id=Y ⟨ap.1,am⟩:=(by rw[dh,au bn]);have ds:aR (bb p C.B) (gQ w b F y) t z ad []:=d8.mono (λu N e=>⟨e,Ff (J u N e)⟩) ac;have ce:=Xb K (aaL G) cs (fa.k0 (m3 T)) S (oz I.h) d9 (n:=n) rfl;refine c2 _ _ _ ⟨_,H,?_⟩ rfl ⟨p,eq,a4,K.put bs (av:=.fe [.val t ad,.ent id d6 n]) ?_⟩
 ·rfl
 refine .fe bn (λd4 av gf f i=>?_)
 match d4 with
 |0=>simp at f i;subst f;subst i;exact .val ds
 |1=>simp at f i;subst f;subst i;exact ce
 |n+2=>grind
theorem Uu {M:Type} {J:M} {u:cI->bv M} {i:bM} (fp:o.op=.entryStore r i n N) (a0:o.dst=bo) (a:re E.tt st.h r (aT st.g i) (aT st.g n) (aT st.g N) u=Y J):eZ E C o st (λn=>∃v,u v=Y J/\n=v.app st):=by
 rintro d w ⟨O,f1,ex,e⟩ next eq ce
 have s:=e.aT i;have m:=e.aT n;have q:=e.aT N;unfold re at a;split at a
 case h_2=>cases a
 rename_i id d1 c1 d2 d0 U S;cases f:(bH c1 id&&ma d2 d1) with
 |false=>grind
 |true=>
 rw[f] at a;rw[cC] at f;obtain rfl:=fv f.1;obtain rfl:=ma.ok f.2;simp only[bG] at a;unfold om at a;simp only at a;split at a
 case h_2=>cases a
 rename_i gc p;split at a
 case h_2=>cases a
 rename_i d9 f0 f9 f7 ap y T;simp only[ak.val.injEq,heq_eq_eq,ajo] at y;subst y;obtain⟨ek,em,d7,d8,f3⟩:=k3.ok ap;split at a
 case h_2=>cases a
 rename_i t co;cases av:a7 d9 t with
 |false=>grind
 |true=>
 rw[av] at a;simp only[bG] at a;split at a
 case h_2=>cases a
 rename_i f6 cs;obtain⟨ds,a4,z⟩:=eO.1 a;obtain⟨fT,j,B⟩:=eO.1 z;obtain⟨f8,cv,ad⟩:=eO.1 B;clear a z B;cases ds with
 |none=>cases j
 |some d3=>
 obtain⟨l,c⟩:=d3;cases ka cs;rw[U] at s;rw[S] at m;rw[T] at q;generalize fz:d.eval i=f5 at s;generalize fs:d.eval n=f2 at m;generalize ft:d.eval N=f4 at q;cases q with|val K=>
 cases m with|ent I bx fl G bl bs=>
 rw[p] at I;cases I;cases s with|ref H k=>
 rw[p] at H;cases H;obtain⟨b,A,L,rfl,fn,am,D,a3⟩:=e.Em p k (iL a4);have:=k.ty;rw[co] at this;cases this;obtain⟨aq,_,x⟩:=k.lB bx;simp only[hL,Value.map.injEq,eR,b9] at x;subst x;rw[nH.2 D.h] at G;cases G;obtain⟨R,el,aw,d4,d5⟩:=D.Up (P:=E.P) bl bs d7 d8 K.len K;simp only[xC,eR] at j;subst j;generalize(bif (gk l d0).isSome then c else c+1)=Q at*;obtain⟨d6,V,an⟩:=a3 (d4 (λdl c2 F=>⟨F,am dl c2 F⟩)) d5 (m3 cv);unfold aic;have ci:(bL d.eval o).run E.P w=.ok .skip (gQ w b R Q):=(by have this:∀t:ah,cX (.mp t) [ajt (Y b)]=.map (Y b):=λ_=>rfl;simp_all [bY,bL]);rw[ci];show next (d.put o.dst bW) _
 rw[a0];refine ce _ _ _ ⟨_,ad,?_⟩ rfl ⟨O,d6,V,an⟩;rfl
end
end
section
structure Su where
 c:Code
 n:X
 pin:bv ahY
 ds:ahY
 α:Type
 f:aO->bv α
 g:aO->α->aO
structure gS where
 tt:bm (bF×ah)
 Fp:bm (X×jx)
 an:bm (X×ah)
 n:X
 pin:ahY
 kg:bm (X×ak)
 p0:ah0
 acX:bv ec
 aB:ahR
 ahO:bm Su
 uY:bm tW
 eq:ahR
def yg (b:b0) (c:bF):Prop:=∃a e d,b.info? c=Y a/\a.size=1/\a.zero=Y e/\e.cells.size=1/\b.underlying c=Y d/\(match d with|.struct _|.array _ _=>bp|_=>bq)=bq
def zR:bm hl->bm ak->bA
 |.c d _::a,.eA b _::as=>bH b d&&zR a as
 |.c _ _::_,_=>bq
 |_::a,_::as=>zR a as
 |_,_=>bp
def sU:bm (X×jx)->X->bm ak->bv jx
 |[],_,_=>bo
 |(k,F)::l,f,as=>bif bH k f&&(zR F.ps as&&(ju 0 F.ps).isNone) then Y F else sU l f as
theorem Ij:∀{e:bm (X×jx)} {c:X} {as:bm ak} {b:jx},sU e c as=Y b->∃d,(d,b)∈e
 |[],_,_,_,a=>by cases a
 |(d,G)::e,c,as,b,a=>by
  simp only[sU] at a;cases f:(bH d c&&(zR G.ps as&&(ju 0 G.ps).isNone)) with
  |true=>grind
  |false=>
   rw[f] at a;obtain⟨h,g⟩:=Ij a;grind
theorem Ik:∀{d:bm (X×jx)} {c:X} {as:bm ak} {b:jx},sU d c as=Y b->ju 0 b.ps=bo
 |[],_,_,_,a=>by cases a
 |(k,G)::d,c,as,b,a=>by
  simp only[sU] at a;cases e:(bH k c&&(zR G.ps as&&(ju 0 G.ps).isNone)) with
  |true=>
   simp_all
  |false=>
   rw[e] at a;exact Ik a
def uN (ic:gS) (a:ng) (b:a.den):aO:=⟨ic.kg++oa a.g b,uM a.h (uO a.g b)⟩
def gx (b:X) (c:ahY) (a:X):bA:=cb a b&&!(eP a c)
def aq (ic:gS) {A:Type} (a:bM->ak) (g:bm (X×aF)) (r:bR) (c:cI->bv A):bv A:=
 match r.dst with
 |none=>match r.op with
  |.store d e v=>rL ic.tt g d (a e) (a v) c
  |.mapUpdate d e o v=>om ic.tt g d (a e) (a o) (a v) c
  |.insert d e o v=>om ic.tt g d (a e) (a o) (a v) c
  |.entryStore d e F v=>re ic.tt g d (a e) (a F) (a v) c
  |.call {callee:=.builtin .delete,args:=xs,argTypes:=s}=>match xs.toList,s.toList with
   |[e,o],[d,_]=>rv ic.tt g d (a e) (a o) c
   |_,_=>bo
  |_=>bo
 |some b=>
  bif gx ic.n ic.pin b then
  match r.op with
  |.pick y e i=>match a y with
   |.val .bool j=>(match a e,a i with
    |.val k u,.val H v=>match hZ (τ:=H) k v with
     |some v=>c ⟨Y (b,.val k (bif j then u else v)),[],[],[]⟩
     |none=>bo
    |u,v=>match j with
     |true=>c ⟨Y (b,u),[],[],[]⟩
     |false=>c ⟨Y (b,v),[],[],[]⟩)
   |_=>bo
  |.call {callee:=.value z,args:=xs,argTypes:=_}=>match a z with
   |.eA l m=>
    match sU ic.Fp l (xs.toList.map a++m) with
    |none=>bo
    |some h=>bif bH h.f l then
     ke g (rM (xs.toList.map a++m) h.ps) h.ps (xs.toList.map a++m) λq=>(h.xW q).bind λj=>bif nu b ⟨[],g⟩ (xs.toList.map a++m) (gG h.ps q j) (iT h.rs (ip h.ps j)) then
      c ⟨Y (b,vt b (iT h.rs (ip h.ps j))),gu (xs.toList.map a++m) (gG h.ps q j),xn (my (xs.toList.map a++m) (gG h.ps q j)),j4 (xs.toList.map a++m) (gG h.ps q j)++iU b (iR (iT h.rs (ip h.ps j))) 0 (iT h.rs (ip h.ps j))⟩ else bo
     else bo
   |_=>bo
  |.call {callee:=.builtin .append,args:=xs,argTypes:=s}=>match xs.toList,s.toList with
   |[e,i],[d,x]=>bif bH d x then n6 ic.tt ic.an g b d (a e) (a i) c else bo
   |_,_=>bo
  |.call {callee:=.builtin .copy,args:=xs,argTypes:=s}=>match xs.toList,s.toList with
   |[e,i],[d,_]=>qU ic.tt g b d (a e) (a i) c
   |_,_=>bo
  |.assign e=>match a e with
   |.val k i=>c ⟨Y (b,.val k i),[],[],[]⟩
   |.eA l m=>c ⟨Y (b,.eA l m),[],[],[]⟩
   |.addr id E=>c ⟨Y (b,.addr id E),[],[],[]⟩
   |.dg v=>match ar ic.an b with
    |none=>c ⟨Y (b,.dg v),[],[],[]⟩
    |some k=>match k.pure&&pS k v with
     |true=>(iK k v.cells.toList).bind λi=>c ⟨Y (b,.val k i),[],[],[]⟩
     |false=>(pN ic.an g b (.dg v)).bind c
   |v=>(pN ic.an g b v).bind c
  |.build d w=>si ic.tt ic.an g a b d w.toList c
  |.mapEntry d e o=>rx ic.tt g b d (a e) (a o) c
  |.box d e=>ub ic.tt ic.an g b d (a e) c
  |.buildSlice d C w=>sk ic.tt ic.an g a b d C w.toList c
  |_=>match kz ic.tt ic.an g a b r.op with
   |.e4 t=>c ⟨Y (b,t),[],[],[]⟩
   |.opt _ i l=>i.bind λp=>c ⟨Y (b,l p),[],[],[]⟩
   |.new _ i G B=>bif bH B b then i.bind λp=>c ⟨Y (b,.ref b []),[],[],[(b,G p)]⟩ else bo
   |.no=>match g2 ic.tt ic.an g a b r.op with
    |.e4 t D=>c ⟨Y (b,t),[],[],D⟩
    |.part _ I l=>(pick I).bind λp=>c ⟨Y (b,(l p).1),[],[],(l p).2⟩
    |.bad=>bo
  else bo
def nv (b:bm (X×aF)) (a:ahY):bA:=a.all λid=>match ar b id with|some c=>HI c.1|none=>bq
def jX (ic:gS) {A:Type} (e:bM->ak) (b:bm (X×aF)) (c:bR) (f:cI->bv A):bv A:=
 match mv ic.p0 (uW c) e (rN c.op) with
 |[]=>aq ic e b c f
 |F=>bif nv b F then aq ic (λh=>iA b F (e h)) (del F b) c λa=>bif a.keep.all (λg=>!eP g.1 F) then f ⟨a.d,F++a.S,a.keep,a.put⟩ else bo else bo
def oi:hl->bA
 |.m _=>bp
 |_=>bq
def JS (ic:gS) (a:bM->ak) (e:bR):bv (X×bm aZ):=match e.op with
 |.call {callee:=.value z,args:=xs,argTypes:=_}=>match a z with
  |.eA d b=>match sU ic.Fp d (xs.toList.map a++b) with
   |some c=>tq (xs.toList.map a++b) (c.ps.map oi)
   |none=>bo
  |_=>bo
 |_=>bo
def Hj (ic:gS) {A:Type} (id:X) (k:aZ) (j:bm aZ) (c:bM->ak) (l:bm (X×aF)) (p:bR) (r:cI->bv A):bv A:=
 match p.dst with
 |none=>bo
 |some g=>
  bif gx ic.n ic.pin g then
  match p.op with
  |.call {callee:=.value m,args:=xs,argTypes:=_}=>match c m with
   |.eA o d=>
    match sU ic.Fp o (xs.toList.map c++d) with
    |none=>bo
    |some a=>
     bif bH a.f o then
     match ar l id with
     |none=>bo
     |some h=>match fm h.1 (k::j) with
      |none=>bo
      |some i=>match h0 h.1 h.2 (k::j) i with
       |none=>bo
       |some q=>
        match fM ((id,⟨i,q⟩)::del [id] l) (rM (mF id (xs.toList.map c++d) (a.ps.map oi)) a.ps) a.ps (mF id (xs.toList.map c++d) (a.ps.map oi)) with
        |none=>bo
        |some e=>(a.xW e).bind λb=>bif nu g ⟨[],(id,⟨i,q⟩)::del [id] l⟩ (mF id (xs.toList.map c++d) (a.ps.map oi)) (gG a.ps e b) (iT a.rs (ip a.ps b))&&(eP id (gu (mF id (xs.toList.map c++d) (a.ps.map oi)) (gG a.ps e b))&&eP id (my (mF id (xs.toList.map c++d) (a.ps.map oi)) (gG a.ps e b))) then
         match ar (j4 (mF id (xs.toList.map c++d) (a.ps.map oi)) (gG a.ps e b)++iU g (iR (iT a.rs (ip a.ps b))) 0 (iT a.rs (ip a.ps b))) id with
         |none=>bo
         |some s=>match hZ i s.2 with
          |none=>bo
          |some t=>(mD h.1 h.2 (k::j) i t).bind λm=>
           r ⟨Y (g,vt g (iT a.rs (ip a.ps b))),gu (mF id (xs.toList.map c++d) (a.ps.map oi)) (gG a.ps e b),(id,k::j)::xn (my (mF id (xs.toList.map c++d) (a.ps.map oi)) (gG a.ps e b)),(id,⟨h.1,m⟩)::(j4 (mF id (xs.toList.map c++d) (a.ps.map oi)) (gG a.ps e b)++iU g (iR (iT a.rs (ip a.ps b))) 0 (iT a.rs (ip a.ps b)))⟩
         else bo
     else bo
   |_=>bo
  |_=>bo
  else bo
def IJ (ic:gS) (b:bM->ak) (c:bR):bv ep:=match c.dst,c.op with
 |some a,.binOp .eql d e g _=>match gX ic.tt d,b e,b g with
  |some _,.val (.a2 _ h) f,.dg (.slice bo 0 0)=>bif gx ic.n ic.pin a then Y (a,aia (α:=h.den) f) else bo
  |_,_,_=>bo
 |_,_=>bo
def Nl (tt:bm (bF×ah)) (a:bF):bA:=match ar tt a with|some (.ptr _ _)=>bp|_=>bq
def II (b:bm (X×aF)):ak->bv bA
 |.val (.ptr _ a) d=>Y (Option.isNone (α:=a.den) d)
 |.ref id c=>match ar b id with
  |some a=>match fm a.1 c with
   |some (.optr _)=>Y bq
   |_=>bo
  |none=>bo
 |_=>bo
def zS:ah->bA
 |.nil=>bp
 |.pr (.int _) a=>zS a
 |_=>bq
def sG:(a:ah)->a.den->a.den->bA
 |.pr (.int _) d,b,c=>((b.1:Z)==(c.1:Z))&&sG d b.2 c.2
 |_,_,_=>bp
def DF (ic:gS) (e:bM->ak) (f:bR):bv (X×bA):=match f.dst,f.op with
 |some d,.binOp .eql c i j _=>match ar ic.tt c,e i,e j with
  |some h,.val (.st a) g,.val k b=>bif eP c ic.eq&&(zS a&&(a7 h (.st a)&&gx ic.n ic.pin d)) then(hZ (τ:=k) (.st a) b).map λb=>(d,sG a g b) else bo
  |_,_,_=>bo
 |_,_=>bo
def AG (ic:gS) (c:bM->ak) (f:bm (X×aF)) (d:bR):bv (X×bA):=match d.dst,d.op with
 |some a,.binOp g e h i _=>match Nl ic.tt e,II f (c h),c i with
  |true,Y b,.dg (.pointer bo)=>bif gx ic.n ic.pin a then(match g with
   |.eql=>Y (a,b)
   |.neq=>Y (a,!b)
   |_=>bo) else bo
  |_,_,_=>bo
 |_,_=>bo
def JY (ic:gS) (f:bM->ak) (d:bR):bv (X×tW×Z):=match d.dst,d.op with
 |some c,.indexAddr e (.global h) g=>match ic.uY.find? (λa=>bH a.b h&&bH a.T e),f g with
  |some a,.val (.int _) i=>bif gx ic.n ic.pin c then Y (c,a,i) else bo
  |_,_=>bo
 |_,_=>bo
def i1 (ic:gS) {A:Type} (a:aO) (b:bR) (c:aO->bv A):bv A:=
 match JY ic (aT a.g) b with
 |some (d,i,f)=>(ao i.xs f).bind λn=>c ⟨(d,.val (.ptr .bg (.int i.k)) (Y n))::a.g,a.h⟩
 |none=>match(AG ic (aT a.g) a.h b).or (DF ic (aT a.g) b) with
 |some (d,j)=>c ⟨(d,.val .bool j)::a.g,a.h⟩
 |none=>match IJ ic (aT a.g) b with
 |some (d,f)=>rz f (c ⟨(d,.val .bool bp)::a.g,a.h⟩) (c ⟨(d,.val .bool bq)::a.g,a.h⟩)
 |none=>match JS ic (aT a.g) b with
  |some (id,m::l)=>Hj ic id m l (aT a.g) a.h b λe=>c (e.app a)
  |_=>jX ic (aT a.g) a.h b λe=>c (e.app a)
def k1 (ic:gS) {A:Type} (c:bU bR):ahY->aO->(aO->bv A)->bv A
 |[],a,b=>b a
 |i::e,a,b=>match c[i]? with
  |none=>bo
  |some f=>match f.guard with
   |none=>i1 ic a f λk=>k1 ic c e k b
   |some (
    l,tw)=>match(c[l]?).bind (·.dst),f.dst with
    |some j,Y d=>match gt a.g j with
     |.val .bool m=>bif gx ic.n ic.pin d then
      (match m==tw with
      |true=>i1 ic ⟨(j,.val .bool tw)::a.g,a.h⟩ f λk=>k1 ic c e k b
      |false=>k1 ic c e ⟨(d,.dg bW)::(j,.val .bool (!tw))::a.g,a.h⟩ b) else bo
     |.dg (.tuple _)=>bif gx ic.n ic.pin d then k1 ic c e ⟨(d,.dg bW)::a.g,a.h⟩ b else bo
     |_=>bo
    |_,_=>bo
section
variable {E:fB} {C:eX} {ic:gS} {A:Type}
def gS.ae (E:fB) (C:eX) (ic:gS):Prop:=ic.tt=E.tt/\ic.n=C.n/\ic.pin=C.pin/\((∀b∈ic.Fp,aD E b.2)/\tU C ic.acX/\(∀a∈ic.aB,yg E.P a)/\lm E C.I0 C.w0/\ic.uY=E.glob/\ic.eq=E.eqs)/\pu C ic.kg
theorem gx.ok (b:ic.ae E C) {d:X} (a:gx ic.n ic.pin d=bp):C.ok d:=by obtain⟨_,c,e,_,_⟩:=b;rw[c,e] at a;simp only[gx,cC] at a;exact⟨gT a.1,λf=>by grind [ha]⟩
def gJ.same {e:ahQ} {d:aO} (l:∀b,gt d.g b=gt i.g b) (c:d.h=i.h) (k:gJ C i e v):gJ C d e v:=by obtain⟨f,m,j,a⟩:=k;exact⟨f,m,j,{a with tree:=by rw[c];exact a.tree,dis:=by rw[c];exact a.dis,tmp:=λb=>by rw[c,l];exact a.tmp b}⟩
def ih.same {f:bU bR} {e:ahY} {a b:aO} {c:aO->Prop} (l:∀d,gt b.g d=gt a.g d) (m:b.h=a.h) (j:ih E C f e b c):ih E C f e a c:=
 λi n k=>j i n (k.same l m)
def cI.K8 {b:bm (X×bm aZ)}:(cI.mk (Y (a,d)) f b e).app i=⟨(a,d)::aij f b i.g,e++del f i.h⟩:=by show aO.mk ((a,d)::nF f b i.g) (e++q5 f i.h)=_;rw[sQ,w7]
theorem Mi (L:ic.ae E C) {l:bR} {st:aO} {o:cI->bv A} {s:A} (a:aq ic (aT st.g) st.h l o=Y s):eZ E C l st (λv=>∃c,o c=Y s/\v=c.app st):=by
 obtain⟨B,d9,ek,ds,_⟩:=id L;unfold aq at a;split at a
 ·rename_i i;split at a
  ·grind [adf,ade]
  ·grind [Og]
  ·rename_i p b ad ap e;rw[B] at a;exact Og (.inr e) i a
  ·grind [Uu]
  ·rename_i x H e;split at a
   case h_2=>cases a
   rename_i b ad p a3 aq S;rw[B] at a;obtain rfl:x=#[b,ad]:=(by grind);obtain rfl:H=#[p,a3]:=(by grind);grind [W4]
  grind
 rename_i z i;cases U:gx ic.n ic.pin z with
 |false=>grind
 |true=>
 rw[U] at a;have j:=gx.ok L U;simp only[bG] at a;split at a
 ·rename_i d6 b m e;split at a
  case h_2=>cases a
  rename_i q K;have d7:∀y,(q=bp->y=aT st.g b)->(q=bq->y=aT st.g m)->o ⟨Y (z,y),[],[],[]⟩=Y s->eZ E C l st (λv=>∃c,o c=Y s/\v=c.app st):=by
   clear a;intro y ce ci u;refine aiO (an:=ic.an) i j ?_;rw[e];simp only[g2,ER,K];refine⟨q,bn,_,u,?_⟩;cases q
   ·rw[ci bn];rfl
   rw[ce bn];rfl
  split at a
  ·rename_i d5 fn fs ap el V;split at a
   case h_2=>cases a
   rename_i d4 d0;cases ka d0;grind
  grind
 ·rename_i fp x _ e;split at a
  case h_2=>cases a
  rename_i J am d2;split at a
  ·cases a
  rename_i I co;cases r:bH I.f J with
  |false=>grind
  |true=>
  rw[r] at a;obtain rfl:=fv r;simp only[bG,nB] at a;obtain⟨d,d8,a⟩:=eO.1 a;obtain⟨q,dl,a⟩:=eO.1 a;cases K:nu z ⟨[],st.h⟩ (x.toList.map (aT st.g)++am) (gG I.ps d q) (iT I.rs (ip I.ps q)) with
  |false=>grind
  |true=>
  rw[K] at a;obtain⟨em,c2⟩:=Ij co;obtain⟨cv,c1⟩:=ds.1 _ c2;refine eZ.call e d2 i j cv (c1 d q dl) (by grind [Ik,AV]) L.2.2.2.2.1 L.2.2.2.1.2.2.2.1 ?_ K ⟨_,a,?_⟩
  ·grind [p1,J0]
  rw[cI.K8];rfl
 ·rename_i x H e;split at a
  case h_2=>cases a
  rename_i b m p N aq S;cases r:bH p N with
  |false=>grind
  |true=>
  rw[r] at a;obtain rfl:=fv r;have bl:x=#[b,m]:=(by grind);have bs:H=#[p,p]:=(by grind);grind [SN]
 ·rename_i x H e;split at a
  case h_2=>cases a
  rename_i b m p N aq S;have bl:x=#[b,m]:=(by grind);have bs:H=#[p,N]:=(by grind);grind [eZ.copy]
 ·rename_i b e;have O:H1 (aT st.g b)=bp->o ⟨Y (z,aT st.g b),[],[],[]⟩=Y s->eZ E C l st (λv=>∃c,o c=Y s/\v=c.app st):=λV u=>by
   refine aiO (an:=ic.an) i j ?_;rw[e];simp only[g2,V,bG];exact⟨_,u,bn⟩
  have as:(pN ic.an st.h z (aT st.g b)).bind o=Y s->eZ E C l st (λv=>∃c,o c=Y s/\v=c.app st):=λu=>(by obtain⟨c,cs,u⟩:=eO.1 u;exact eZ.SV e i j (SW cs ⟨c,u,bn⟩));split at a
  ·rename_i d5 m t;exact O (by rw[t];rfl) (by grind)
  ·rename_i J am t;exact O (by rw[t];rfl) (by grind)
  ·rename_i id ex t;rintro d w ⟨a0,d3,bx,D⟩ next a4 Q
   have M:=D.aT b;have R:(bL d.eval l).run E.P w=.ok (.value (d.eval b)) w:=(by simp[bL,e]);unfold aic;rw[R];show next (d.put l.dst (d.eval b)) w
   rw[i];refine Q _ _ _ ⟨_,a,bn⟩ rfl ⟨_,_,_,D.put j ?_⟩;grind
  ·rename_i ap t;split at a
   ·exact O (by rw[t];rfl) (by grind)
   split at a
   ·rename_i T;simp only[cC] at T;obtain⟨m,d1,a⟩:=eO.1 a;rintro d w ⟨a0,d3,bx,D⟩ next a4 Q
    have M:=D.aT b;have R:(bL d.eval l).run E.P w=.ok (.value (d.eval b)) w:=(by simp[bL,e]);unfold aic;rw[R];show next (d.put l.dst (d.eval b)) w
    rw[i];refine Q _ _ _ ⟨_,a,bn⟩ rfl ⟨_,_,_,D.put j ?_⟩;rw[t] at M;generalize d.eval b=d4 at M;cases M;rw[<-pS.ok T.2];exact .val (pR d1)
   grind
  grind
 ·grind [Ta]
 ·grind [Xc]
 ·grind [Td]
 ·grind [Th]
 split at a
 ·rename_i y k;refine aiO (an:=ic.an) i j ?_;rw[<-B];exact Hr (by rw[k];exact⟨_,a,bn⟩)
 ·rename_i av m J k;refine aiO (an:=ic.an) i j ?_;rw[<-B];obtain⟨G,F,a⟩:=eO.1 a;exact Hr (by rw[k];exact⟨G,F,_,a,bn⟩)
 ·rename_i av m fl c k;cases r:bH c z with
  |false=>grind
  |true=>
  rw[r] at a;obtain rfl:=fv r;obtain⟨G,F,a⟩:=eO.1 a;refine aiO (an:=ic.an) i j ?_;rw[<-B];exact Hr (by rw[k];exact⟨G,F,_,a,bn⟩)
 refine aiO (an:=ic.an) i j ?_;rw[B] at a;split at a
 ·rename_i y eq k;rw[k];exact⟨_,a,bn⟩
 ·rename_i av ft J k;rw[k];obtain⟨G,F,a⟩:=eO.1 a;exact⟨G,abb F,_,a,bn⟩
 grind
theorem eZ.mono {P:aO->Prop} (e:eZ E C h i P) (j:∀a,P a->u a):eZ E C h i u:=
 λc l f next b g=>e c l f next b (λa d m k=>g a d m (j a k))
theorem aco (b:k4 g d=bp):∃id,d.ids=[id]/\∃a∈g,a.1=id:=by
 have e:∀(id:X) (f:X×bm aZ->bA),(g.any λa=>bH a.1 id&&f a)=bp->∃a∈g,a.1=id:=(by intro id f k;obtain⟨a,h,i⟩:=pw.1 k;simp only[cC] at i;grind [aiK]);cases d with
 |ref id c=>
  cases c with
  |nil=>
   obtain⟨a,h,j⟩:=pw.1 (show(g.any λa=>bH a.1 id)=bp from b);exact⟨id,bn,a,h,fv j⟩
  |cons n c=>exact⟨id,bn,e id _ b⟩
 |addr id c=>exact⟨id,bn,e id _ b⟩
 |view id c m l=>exact⟨id,bn,e id _ b⟩
 |_=>cases b
theorem Fy:d.fo (f++w)=(d.fo f||d.fo w):=by simp only[aif];rw[vN];simp only[pw,je];grind [ha,amp,akB]
theorem LL {b:bm ak}:(ak.eA a b).fo f=b.any λc=>c.fo f:=by
 show(aiX b).any _=_
 induction b with
 |nil=>rfl
 |cons c b d=>grind [aiX,aif]
theorem Qf (b:d.fo w=bq):kf (w++f) g d=kf f g d:=by
 cases d with
 |eA m p=>
  rw[LL,tJ] at b;rw[vN];simp only[kf,gY];constructor<;>intro i e h<;>have:=i e h<;>rw[Fy,Bool.eq_false_iff.2 (b e h)] at*<;>simpa using this
 |app id q s r c=>
  have j:=Ke b;have o:∀a∈c,eP a (w++f)=eP a f:=λa k=>(by have n:a∉w:=j a (hY _ k);rw[vN,ha,ha,hX];grind);have l:(c.all λa=>!(eP a (w++f)))=c.all λa=>!(eP a f):=(by grind);grind [kf]
 |_=>rfl
theorem V8 {F S:ahY} {keep:bm (X×bm aZ)} {a:ak}:fc (F++S) keep a=.dead\/(a.fo F=bq/\fc (F++S) keep a=fc S keep a)\/(kf (F++S) keep a=bp/\fc (F++S) keep a=a):=by grind [Qf,Fy,kf,fc]
theorem nv.ok (b:nv e f=bp):∀id∈f,∃a,ar e id=Y a/\HI a.1=bp:=by intro id c;have:=gY.1 b id c;grind
theorem Mk (bx:ic.ae E C) {L:bR} {O:cI->bv A} {am:A} (e:jX ic (aT i.g) i.h L O=Y am):eZ E C L i (λN=>∃b,O b=Y am/\N=b.app i):=by
 unfold jX at e;split at e
 ·grind [Mi]
 generalize mv ic.p0 (uW L) (aT i.g) (rN L.op)=c at e;cases T:nv i.h c with
 |false=>grind
 |true=>
 rw[T] at e;simp only[bG] at e;rw[<-Vp c i] at e;have m:=Mi (st:=sL c i) bx e;intro j c1 M next an ci
 obtain⟨dl,d6,ds,M⟩:=M;refine m j c1 (M.freeze (nv.ok T)) next an (λd7 ap c2 cs bl a0=>?_)
 obtain⟨b,U,rfl⟩:=cs;cases V:b.keep.all (λl=>!eP l.1 c) with
 |false=>grind
 |true=>
 rw[V] at U;have V:∀l∈b.keep,l.1∉c:=λl q ce=>(by grind [ha,ai5]);refine ci _ ap c2 ⟨_,U,bn⟩ bl (a0.NE ?_ ?_)
 ·intro B;have r:∀j:ak,fc (c++b.S) b.keep j=.dead\/fc (c++b.S) b.keep j=fc b.S b.keep (gW i.h c j):=by
   intro j;rcases V8 (F:=c) (S:=b.S) (keep:=b.keep) (a:=j) with e|⟨m,y⟩|⟨m,y⟩
   ·grind
   ·right;rw[y];rcases mu i.h c j with⟨id,p,rfl,cv,_⟩|⟨_,o⟩|⟨o,_⟩
    ·grind [ha,aif,bT]
    ·grind
    grind
   have co:∀(id:X),(∃k∈b.keep,k.1=id)->eP id c=bq:=λid ⟨k,z,b⟩=>(by grind);have u:kf (c++b.S) b.keep j=kf b.S b.keep j->∀(id:X),j.ids=[id]->(∃k∈b.keep,k.1=id)->fc (c++b.S) b.keep j=.dead\/fc (c++b.S) b.keep j=fc b.S b.keep (gW i.h c j):=by
    intro d1 id d3 z;have ad:j.fo c=bq:=(by grind [aif]);right;rcases mu i.h c j with⟨l,p,rfl,cv,_⟩|⟨_,o⟩|⟨o,_⟩
    ·grind [ha,aif,bT]
    ·grind
    grind [fc,kf]
   have w:∀(id:X) (P:X×bm aZ->bA),(b.keep.any λk=>bH k.1 id&&P k)=bp->∃k∈b.keep,k.1=id:=(by intro id P bs;obtain⟨k,z,y⟩:=pw.1 bs;simp only[cC] at y;grind [aiK]);cases j with
   |ref id f=>
    cases f with
    |nil=>
     obtain⟨k,z,G⟩:=pw.1 (show(b.keep.any λk=>bH k.1 id)=bp from m);exact u bn id bn ⟨k,z,fv G⟩
    |cons N f=>exact u bn id bn (w id _ m)
   |addr id f=>exact u bn id bn (w id _ m)
   |view id f D q=>exact u bn id bn (w id _ m)
   |eA t n=>
    have a3:=gY.1 m;have ad:(ak.eA t n).fo c=bq:=(by rw[LL,tJ];grind [aco,Fy,id,aif,aq]);right;rcases mu i.h c (.eA t n) with⟨l,p,aw,_⟩|⟨_,o⟩|⟨o,_⟩
    ·cases aw
    ·grind
    rw[o,y];unfold fc;have d0:kf b.S b.keep (.eA t n)=bp:=gY.2 λav a4=>(by have G:=a3 av a4;rw[Fy,Bool.not_or,je,cC] at G;grind);grind
   |app id f v x s=>
    have R:((s.all λl=>!(eP l (c++b.S)))&&b.keep.any λk=>bH k.1 id&&kW k.2 f)=bp:=m;rw[cC] at R;have d2:=co id (w id _ R.2);have ad:(ak.app id f v x s).fo c=bq:=by
     unfold aif;rw[tJ];intro l q ce;rcases fV.1 (show l∈id::s from q) with rfl|q
     ·grind
     grind [ai5,ha,amp]
    right;rcases mu i.h c (.app id f v x s) with⟨l,p,aw,_⟩|⟨_,o⟩|⟨o,_⟩
    ·cases aw
    ·grind
    grind [Qf,fc]
   |hy j=>
    have m:k4 b.keep j=bp:=m;cases j with
    |ref id f=>
     cases f with
     |nil=>
      obtain⟨k,z,G⟩:=pw.1 (show(b.keep.any λk=>bH k.1 id)=bp from m);exact u bn id bn ⟨k,z,fv G⟩
     |cons N f=>exact u bn id bn (w id _ m)
    |addr id f=>exact u bn id bn (w id _ m)
    |view id f D q=>exact u bn id bn (w id _ m)
    |_=>cases m
   |_=>cases m
  have d4:∀j:ak,x6 (fI (c++b.S) b.keep j) (fI b.S b.keep (iA i.h c j)):=by
   intro j;cases j with
   |fe n=>
    refine .inr (.inr ⟨_,_,bn,bn,ac,λl k d9 m y=>?_⟩);grind
   |ref id f=>
    have o:=r (.ref id f);have aq:fI b.S b.keep (iA i.h c (.ref id f))=fc b.S b.keep (gW i.h c (.ref id f)):=by show fI b.S b.keep (gW i.h c (.ref id f))=_;rcases mu i.h c (.ref id f) with⟨l,p,_,_,_,e⟩|⟨e,_⟩|⟨e,_⟩<;>rw[e]<;>first|rfl|grind [Vq]
    rw[aq];exact o.imp (λe=>e) .inl
   |dead=>exact(r .dead).imp (λe=>e) .inl
   |val v k=>exact .inr (.inl (by
    simp[fc,gW,iA,fI,aif,bT]))
   |dg d8=>exact .inr (.inl (by
    simp[fc,gW,iA,fI,aif,bT]))
   |addr id f=>
    have aq:fI b.S b.keep (iA i.h c (.addr id f))=fc b.S b.keep (gW i.h c (.addr id f)):=by show fI b.S b.keep (gW i.h c (.addr id f))=_;rcases mu i.h c (.addr id f) with⟨l,p,_,_,_,e⟩|⟨e,_⟩|⟨e,_⟩<;>rw[e]<;>first|rfl|grind
    rw[aq];exact(r _).imp (λe=>e) .inl
   |view id f D q=>
    have aq:fI b.S b.keep (iA i.h c (.view id f D q))=fc b.S b.keep (gW i.h c (.view id f D q)):=by show fI b.S b.keep (gW i.h c (.view id f D q))=_;rcases mu i.h c (.view id f D q) with⟨l,p,_,_,_,e⟩|⟨e,_⟩|⟨e,_⟩<;>rw[e]<;>first|rfl|grind
    rw[aq];exact(r _).imp (λe=>e) .inl
   |ent id f K=>
    have aq:fI b.S b.keep (iA i.h c (.ent id f K))=fc b.S b.keep (gW i.h c (.ent id f K)):=by show fI b.S b.keep (gW i.h c (.ent id f K))=_;rcases mu i.h c (.ent id f K) with⟨l,p,_,_,_,e⟩|⟨e,_⟩|⟨e,_⟩<;>rw[e]<;>first|rfl|grind
    rw[aq];exact(r _).imp (λe=>e) .inl
   |app id f v x s=>
    have aq:fI b.S b.keep (iA i.h c (.app id f v x s))=fc b.S b.keep (gW i.h c (.app id f v x s)):=by show fI b.S b.keep (gW i.h c (.app id f v x s))=_;rcases mu i.h c (.app id f v x s) with⟨l,p,_,_,_,e⟩|⟨e,_⟩|⟨e,_⟩<;>rw[e]<;>first|rfl|grind
    rw[aq];exact(r _).imp (λe=>e) .inl
   |agg n=>
    have aq:fI b.S b.keep (iA i.h c (.agg n))=fc b.S b.keep (gW i.h c (.agg n)):=by show fI b.S b.keep (gW i.h c (.agg n))=_;rcases mu i.h c (.agg n) with⟨l,p,_,_,_,e⟩|⟨e,_⟩|⟨e,_⟩<;>rw[e]<;>first|rfl|grind
    rw[aq];exact(r _).imp (λe=>e) .inl
   |eA t n=>
    have aq:fI b.S b.keep (iA i.h c (.eA t n))=fc b.S b.keep (gW i.h c (.eA t n)):=by show fI b.S b.keep (gW i.h c (.eA t n))=_;rcases mu i.h c (.eA t n) with⟨l,p,_,_,_,e⟩|⟨e,_⟩|⟨e,_⟩<;>rw[e]<;>first|rfl|grind
    rw[aq];exact(r _).imp (λe=>e) .inl
   |hy j=>
    have aq:fI b.S b.keep (iA i.h c (.hy j))=fc b.S b.keep (gW i.h c (.hy j)):=by show fI b.S b.keep (gW i.h c (.hy j))=_;rcases mu i.h c (.hy j) with⟨l,p,_,_,_,e⟩|⟨e,_⟩|⟨e,_⟩<;>rw[e]<;>first|rfl|grind
    rw[aq];exact(r _).imp (λe=>e) .inl
  show x6 (gt (cI.app ⟨b.d,c++b.S,b.keep,b.put⟩ i).g B) (gt (b.app (sL c i)).g B);obtain⟨J,H,I,d5⟩:=b;cases J with
  |none=>
   show x6 (gt (nF (c++H) I i.g) B) (gt (nF H I (sL c i).g) B);grind [sQ,p2,DU]
  |some o=>
   obtain⟨J,Q⟩:=o;show x6 (gt ((J,Q)::nF (c++H) I i.g) B) (gt ((J,Q)::nF H I (sL c i).g) B);rw[iQ,iQ];split
   ·exact .inr (.inl bn)
   grind [sQ,p2,DU]
 intro id;show ar (b.put++q5 (c++b.S) i.h) id=ar (b.put++q5 b.S (del c i.h)) id;grind [w7,kC,mW]
theorem Uc (m:ic.ae E C) {p:bR} {id:X} {k:aZ} (bs:JS ic (aT i.g) p=Y (id,k::j)) {q:cI->bv A} {y:A} (a:Hj ic id k j (aT i.g) i.h p q=Y y):eZ E C p i (λk=>∃r,q r=Y y/\k=r.app i):=by
 have R:=λc=>gx.ok m (d:=c);have M:=m.2.2.2.2.1;have N:=m.2.2.2.1.2.2.2.1;obtain⟨bx,_,_,V,_⟩:=m;unfold Hj at a;split at a
 ·cases a
 rename_i c I;cases w:gx ic.n ic.pin c with
 |false=>grind
 |true=>
 rw[w] at a;have J:=R c w;simp only[bG] at a;split at a
 case h_2=>cases a
 rename_i a4 B cv P;split at a
 case h_2=>cases a
 rename_i F x an;split at a
 ·cases a
 rename_i b G;cases u:bH b.f F with
 |false=>grind
 |true=>
 rw[u] at a;obtain rfl:=fv u;simp only[bG] at a;split at a
 ·cases a
 rename_i co T;split at a
 ·cases a
 rename_i a3 ce;split at a
 ·cases a
 rename_i av ad;split at a
 ·cases a
 rename_i l bl;obtain⟨e,Q,a⟩:=eO.1 a;have S:tq (B.toList.map (aT i.g)++x) (b.ps.map oi)=Y (id,k::j):=(by grind [JS]);generalize H:mF id (B.toList.map (aT i.g)++x) (b.ps.map oi)=o at*;cases v:nu c ⟨[],(id,⟨a3,av⟩)::del [id] i.h⟩ o (gG b.ps l e) (iT b.rs (ip b.ps e)) with
 |false=>grind
 |true=>
 rw[v] at a;cases s:eP id (gu o (gG b.ps l e)) with
 |false=>grind
 |true=>
 rw[s] at a;cases t:eP id (my o (gG b.ps l e)) with
 |false=>grind
 |true=>
 rw[t] at a;simp only[Bool.and_self,bG] at a;split at a
 ·cases a
 rename_i cs U;split at a
 ·cases a
 rename_i D am;obtain⟨a0,ap,a⟩:=eO.1 a;obtain⟨ci,O⟩:=Ij G;obtain⟨K,L⟩:=V.1 _ O;refine eZ.sub P an I J K (L l e Q) (by grind [Ik,AV]) M N T (iL ad) S H.symm ?_ v (ha.1 s) (ha.1 t) (y':=D) (z:=a0) ?_ (m3 ap) ⟨_,a,?_⟩
 ·grind [p1,J0]
 ·rw[U];exact b3 Y (ka am)
 rw[cI.K8]
def acC (b:bD) (e:X) (a:bv Addr) (g d:X) (f:p.underlying c=Y (.slice r)):(ai6 (e+1) c (.slice a g d) (.slice bo 0 0)).run p b=.ok a.isNone b:=by cases a<;>simp[ai6,b8 f]
theorem acA (b:bD) (a:bv Addr) (e d:X) (f:p.underlying c=Y (.slice r)):(aid .eql c (.slice a e d) (.slice bo 0 0)).run p b=.ok (.bool a.isNone) b:=by simp_all [acC,ajN,ajO,aid]
theorem Xy (s:ic.ae E C) {x:bR} (b:IJ ic (aT i.g) x=Y (a,m)):eZ E C x i (λR=>∃c:bA,R=⟨(a,.val .bool c)::i.g,i.h⟩/\(c=bp->m=0)):=by
 unfold IJ at b;split at b
 case h_2=>cases b
 rename_i D A j k a3 H J;split at b
 case h_2=>cases b
 rename_i a0 ap z y r F G;cases t:gx ic.n ic.pin D with
 |false=>grind
 |true=>
 rw[t] at b;simp only[bG,eR,ij] at b;obtain⟨rfl,rfl⟩:=b;rw[s.1] at r;obtain⟨_,T,_,K,_⟩:=gX.ok r;rintro e f ⟨S,av,V,l⟩ next U an
 have o:=l.aT j;have p:=l.aT k;rw[F] at o;rw[G] at p;obtain⟨d,u⟩:∃d,d=e.eval j:=⟨_,bn⟩;obtain⟨fw,w⟩:∃d,d=e.eval k:=⟨_,bn⟩;rw[<-u] at o;rw[<-w] at p;cases o with|val O=>cases p with|dg _=>
 obtain⟨_,c,q,rfl,ad,am,_⟩:=O;have L:e.eval j=.slice c (aia (α:=z.den) y) q:=u.symm;have M:e.eval k=.slice bo 0 0:=w.symm;have I:∀f,(aiV .eql A j k (.slice c (aia (α:=z.den) y) q) (.slice bo 0 0)).run E.P f=.ok () f:=λf=>(by unfold aiV;simp);refine ajZ (Q:=λB N=>B=.val .bool c.isNone/\N=[]) l (.pure (v:=.bool _) (by simp only[bL,J,L,M,bY,I,b1,acA _ _ _ _ K];rfl) (.bool _) ⟨bn,bn⟩) H (gx.ok s t) ?_;grind
def adB {d:X} {f:cu} (i:E.P.underlying r=Y (.array d c)) (g:fj E.P (.int f) c) {b:Act} (k:h.op=.indexAddr r (.global m) n) {p:cu} (j:b.eval n=.int p a) (q:a<d):(bL b.eval h).run E.P v=.ok (.value (.pointer (Y ⟨m,0+a*1,bo⟩))) v:=by have e:=g.sizeOf v;have o:b.eval (.global m)=.pointer (Y ⟨m,0,bo⟩):=rfl;have:(0:Z)<=(a:Z)/\(a:Z)<(d:Z):=⟨aa,aa⟩;have l:(ah.int f).size=1:=rfl;rw[l] at e;simp[bL,k,o,j,Instr.indexAt,ajp,ai7,b8 i,this,e,aiU];omega
theorem adx (e:ic.ae E C) {A:bR} {r:tW} {z f:Z} (c:JY ic (aT i.g) A=Y (a,r,z)) (V:ao r.xs z=Y f):eZ E C A i (λap=>ap=⟨(a,.val (.ptr .bg (.int r.k)) (Y f))::i.g,i.h⟩):=by
 unfold JY at c;split at c
 case h_2=>cases c
 rename_i F a3 co p R S;split at c
 case h_2=>cases c
 rename_i d y q v M;cases w:gx ic.n ic.pin F with
 |false=>grind
 |true=>
 rw[w] at c;simp only[bG,eR,ij] at c;obtain⟨rfl,rfl,rfl⟩:=c;have l:=List.find?_some v;have o:=alx v;rw[cC] at l;obtain rfl:=fv l.1;obtain rfl:=fv l.2;rw[e.2.2.2.1.2.2.2.2.1] at o;obtain⟨a0,P,O⟩:=E.gok d o;rintro s ds ⟨av,c2,ce,j⟩ next a4 ci
 have m:=j.aT p;rw[M] at m;generalize T:s.eval p=dl at m;cases m with|val an=>
 obtain⟨_,rfl⟩:=an;obtain⟨aq,K,L⟩:=MY V;obtain⟨_,bl,bx,u,aw,c1,B⟩:=j.glob e.2.2.2.2.1 e.2.2.2.1.2.2.2.1 d o;simp only[hL,ah7,b9] at u;obtain⟨rfl,_⟩:=u;rcases B with B|⟨bs,cv,t,N,am⟩
 ·grind
 simp only[eR,ain,b9] at t;obtain⟨rfl,rfl⟩:=t;obtain⟨J,G,H,I⟩:=am _ _ L;have U:s.eval p=.int y (q.toNat:X):=(by rw[T];show aie y q=_;grind);refine ajZ (Q:=λD ad=>D=.val (.ptr .bg (.int d.k)) (Y f)/\ad=[]) j (.pure (adB P O S U K) (.val (τ:=.ptr .bg (.int d.k)) (x:=Y f) (cs:=[.pointer (Y ⟨d.b,0+q.toNat*1,bo⟩)]) ⟨bn,d.b,_,J,bn,N,G,H,I⟩) ⟨bn,bn⟩) R (gx.ok e w) ?_;grind
def Qp (b:bD) (d:X) (a:bv Addr) (e:p.underlying c=Y (.pointer r)):(ai6 (d+1) c (.pointer a) (.pointer bo)).run p b=.ok a.isNone b:=by cases a<;>simp[ai6,b8 e]
theorem acB (b:bD) (a:bv Addr) (d:p.underlying c=Y (.pointer r)):(aid .eql c (.pointer a) (.pointer bo)).run p b=.ok (.bool a.isNone) b:=by simp_all [Qp,ajN,ajO,aid]
theorem acD (b:bD) (a:bv Addr) (d:p.underlying c=Y (.pointer r)):(aid .neq c (.pointer a) (.pointer bo)).run p b=.ok (.bool (!a.isNone)) b:=by simp_all [Qp,ajN,ajO,aid]
theorem Xt {f:Act} (m:cM C i f.tmps v O x y) {c:bA} (a:II i.h (aT i.g n)=Y c):∃l:bv Addr,f.eval n=.pointer l/\l.isNone=c:=by
 have b:=m.aT n;obtain⟨v1,d⟩:∃k,k=f.eval n:=⟨_,bn⟩;rw[<-d] at b;unfold II at a;split at a
 ·rename_i D z k j;rw[j] at b;cases b with|val e=>
  obtain⟨_,e⟩:=e;cases a;cases k with
  |none=>subst e;exact⟨bo,d.symm,bn⟩
  |some G=>obtain⟨r,u,s,rfl,_⟩:=e;exact⟨Y ⟨r,u,bo⟩,d.symm,bn⟩
 ·rename_i id E j;split at a
  case h_2=>cases a
  rename_i z p;split at a
  case h_2=>cases a
  rename_i F t;cases a;rw[j] at b;cases b with|ref q o=>
  rw[p] at q;cases q;have:=o.ty;rw[t] at this;cases this;obtain⟨c,w,s,rfl,A,B⟩:=pa (m.tree id _ p).1 o;exact⟨Y ⟨c,w,bo⟩,d.symm,bn⟩
 grind
theorem abo (p:ic.ae E C) {F:bR} {m:bA} (b:AG ic (aT i.g) i.h F=Y (a,m)):eZ E C F i (λO=>O=⟨(a,.val .bool m)::i.g,i.h⟩):=by
 unfold AG at b;split at b
 case h_2=>cases b
 rename_i J d k R f av u y;split at b
 case h_2=>cases b
 rename_i I o K L;cases q:gx ic.n ic.pin J with
 |false=>grind
 |true=>
 rw[q] at b;simp only[bG] at b;have M:∃j,E.P.underlying k=Y (.pointer j):=by
  rw[p.1] at o;unfold Nl at o;split at o
  ·rename_i am ap N;obtain⟨_,j,_,_,_,_,V,_⟩:=E.ok k _ N;grind
  grind
 obtain⟨j,z⟩:=M;rintro t e ⟨S,an,U,c⟩ next T ad
 have r:=c.aT f;rw[L] at r;obtain⟨fw,B⟩:∃G,G=t.eval f:=⟨_,bn⟩;rw[<-B] at r;cases r with|dg _=>
 obtain⟨H,A,x⟩:=Xt c K;have D:t.eval f=.pointer bo:=B.symm;have w:∀d e,(aiV d k R f (.pointer H) (.pointer bo)).run E.P e=.ok () e:=λd e=>(by unfold aiV;cases d<;>simp);split at b
 ·cases b;refine ajZ (Q:=λl s=>l=.val .bool m/\s=[]) c (.pure (v:=.bool _) (by simp only[bL,y,A,D,bY,w,b1,acB _ _ z,x];rfl) (.bool _) ⟨bn,bn⟩) u (gx.ok p q) ?_;grind
 ·cases b;refine ajZ (Q:=λl s=>l=.val .bool (!I)/\s=[]) c (.pure (v:=.bool _) (by simp only[bL,y,A,D,bY,w,b1,acD _ _ z,x];rfl) (.bool _) ⟨bn,bn⟩) u (gx.ok p q) ?_;grind
 grind
def Mu {P:b0} {M:eC->X->Prop} {w w0:bD} {d:X}:∀{t:ah} {fs:bm aio} {off:X} {b:ahS} {xs ys:ahQ} {p q:t.den},zS t=bp->iD P t fs off b->(fs.all λf=>f.name !="_")=bp->aR M w0 t (xs.toList.drop off) p []->aR M w0 t (ys.toList.drop off) q []->(akF (d+1) xs ys fs).run P w=.ok (sG t p q) w
 |.nil,[],_,_,_,_,_,_,_,_,_,_,_=>by simp[akF,sG]
 |.nil,_::_,_,_,_,_,_,_,_,c,_,_,_=>c.elim
 |.pr i e,[],_,_,_,_,_,_,_,c,_,_,_=>c.elim
 |.pr i e,f::fs,off,b,xs,ys,p,q,a,c,h,A,B=>by
  cases i<;>simp only[zS] at a<;>try (cases a;done)
  rename_i L;obtain⟨v,k,J,_,x⟩:=c;simp only[rX,cC,bne_iff_ne,ne_eq] at h;obtain⟨G,f2,o,E,m⟩:=A;obtain⟨H,I,r,F,n⟩:=B;obtain⟨rfl,rfl⟩:=ak7.1 o.symm;obtain⟨rfl,rfl⟩:=ak7.1 r.symm;have j:∀(b:ahQ) (g:Value),(b.toList.drop off).take 1=[g]->(part f.type b f.offset).run P w=.ok g w:=λb g z=>(by have C:b[off]?=Y g:=(by have:=b3 (·[0]?) z;simpa[akm,pA] using this);simp only[part,bY,k.isAgg,b1,v,C,o6];rfl);have s:=j xs _ E.2;have u:=j ys _ F.2;obtain⟨K,_,_,_,_,y⟩:=k;have D:=Mu (P:=P) (M:=M) (w:=w) (w0:=w0) (d:=d) (t:=e) (fs:=fs) (off:=off+1) (xs:=xs) (ys:=ys) (p:=p.2) (q:=q.2) a x (by simpa using h.2)
   (by rw[qt] at m;exact m) (by rw[qt] at n;exact n)
  simp only[akF,h.1,not_false_eq_true,cf,ne_eq,bY,s,u,b1,run_equalIn_int _ _ _ _ _ _ _ y];show Sem.run P (if(!((p.1:Z)==(q.1:Z)))=bp then pure bq else akF (d+1) xs ys fs) w=_;cases l:((p.1:Z)==(q.1:Z)) with
  |true=>
   rw[ax ac,D];show _=amq (((p.1:Z)==(q.1:Z))&&sG e p.2 q.2) w;rw[l,ajX]
  |false=>
   rw[au ac];show _=amq (((p.1:Z)==(q.1:Z))&&sG e p.2 q.2) w;rw[l,alo];rfl
 |.int _,_,_,_,_,_,_,_,a,_,_,_,_=>by cases a
 |.bool,_,_,_,_,_,_,_,a,_,_,_,_=>by cases a
 |.str,_,_,_,_,_,_,_,a,_,_,_,_=>by cases a
 |.a2 _ _,_,_,_,_,_,_,_,a,_,_,_,_=>by cases a
 |.ptr _ _,_,_,_,_,_,_,_,a,_,_,_,_=>by cases a
 |.osl _,_,_,_,_,_,_,_,a,_,_,_,_=>by cases a
 |.optr _,_,_,_,_,_,_,_,a,_,_,_,_=>by cases a
 |.st _,_,_,_,_,_,_,_,a,_,_,_,_=>by cases a
 |.eL,_,_,_,_,_,_,_,a,_,_,_,_=>by cases a
 |.mp _,_,_,_,_,_,_,_,a,_,_,_,_=>by cases a
 |.fx _ _,_,_,_,_,_,_,_,a,_,_,_,_=>by cases a
 |.fn _ _,_,_,_,_,_,_,_,a,_,_,_,_=>by cases a
theorem Uv (o:ic.ae E C) {H:bR} {w:bA} (b:DF ic (aT i.g) H=Y (a,w)):eZ E C H i (λco=>co=⟨(a,.val .bool w)::i.g,i.h⟩):=by
 unfold DF at b;split at b
 case h_2=>cases b
 rename_i R c s u d6 ap a0;split at b
 case h_2=>cases b
 rename_i cs e I d8 d0 B U V;cases j:eP c ic.eq&&(zS e&&(a7 cs (.st e)&&gx ic.n ic.pin R)) with
 |false=>rw[j] at b;cases b
 |true=>
 rw[j,bG] at b;obtain⟨J,a3,b⟩:=fD.1 b;cases b;simp only[cC] at j;obtain⟨L,M,N,O⟩:=j;rw[o.1] at B;have am:=(E.ok c _ B).lay N;have an:=E.eqok c (by rw[<-o.2.2.2.1.2.2.2.2.2];exact ha.1 L);cases ka a3;obtain⟨_,ds,A,d7,aw,d1,d2,d3,r,bx,d4⟩:=am;obtain⟨aq,S,ad,z,T⟩:=an;rw[r] at z;obtain rfl:A=ad:=(by simpa using z);rintro f k ⟨cv,d5,c2,m⟩ next c1 dl
 have p:=m.aT s;have q:=m.aT u;rw[U] at p;rw[V] at q;obtain⟨v1,F⟩:∃l,l=f.eval s:=⟨_,bn⟩;obtain⟨fw,G⟩:∃l,l=f.eval u:=⟨_,bn⟩;rw[<-F] at p;rw[<-G] at q;cases p with|val ce=>cases q with|val ci=>
 rename_i x y;have a4:f.eval s=.agg x.toArray:=F.symm;have bl:f.eval u=.agg y.toArray:=G.symm;have D:E.P.fieldsOf c=A:=(by unfold Program.fieldsOf;rw[r]);have av:(ai6 10000 c (.agg x.toArray) (.agg y.toArray)).run E.P k=.ok (sG e I J) k:=(by rw[run_equalIn_struct k 9999 c _ _ (by rw[D];exact r) aq,D];exact Mu (t:=e) (off:=0) (d:=9998) M bx T (by rw[lV];exact ce) (by rw[lV];exact ci));refine ajZ (Q:=λK bs=>K=.val .bool (sG e I J)/\bs=[]) m (.pure (v:=.bool _) (by simp only[bL,a0,a4,bl,bY,run_eqGuard_agg k _ _ _ _ _ _ S,b1,run_eql_struct,av];rfl) (.bool _) ⟨bn,bn⟩) ap (gx.ok o O) ?_;grind
theorem Na (j:ic.ae E C) {p:bU bR} {m:bR} {q:aO->bv A} {s:A} (k:p[a]?=Y m) (l:kN p i m bp) (c:i1 ic i m q=Y s) (D:∀d,q d=Y s->ih E C p f d u):ih E C p (a::f) i u:=
by
 unfold i1 at c;split at c
 ·rename_i o H y b;obtain⟨J,x,c⟩:=eO.1 c;refine ajA k l ((adx j b x).mono (λd e=>?_));grind
 split at c
 ·rename_i o n b;have w:AG ic (aT i.g) i.h m=Y (o,n)\/DF ic (aT i.g) m=Y (o,n):=by
   cases r:AG ic (aT i.g) i.h m with
   |none=>rw[r,Option.none_or] at b;exact .inr b
   |some I=>rw[r,Option.some_or] at b;exact .inl b
  rcases w with b|b
  ·refine ajA k l ((abo j b).mono (λd e=>?_));grind
  refine ajA k l ((Uv j b).mono (λd e=>?_));grind
 split at c
 ·rename_i o y b;obtain⟨z,B⟩:=Xx c;refine ajA k l ((Xy j b).mono (λd e=>?_));obtain⟨n,rfl,F⟩:=e;cases n with
  |false=>grind
  |true=>grind
 split at c
 ·rename_i id d G e;exact ajA k l ((Uc j e c).mono (λd ⟨t,v,e⟩=>by grind))
 exact ajA k l ((Mk j c).mono (λd ⟨t,v,e⟩=>by grind))
theorem z1 {l2:ahY} (d:ic.ae E C) {q:bU bR} {s:aO->bv A} {y:A} {t:aO->Prop} (f:∀k,s k=Y y->ih E C q l2 k t):∀{p:ahY} {b:aO},k1 ic q p b s=Y y->ih E C q (p++l2) b t
 |[],b,a=>f _ a
 |i::p,b,a=>by
  simp only[k1] at a;split at a
  ·cases a
  rename_i H j;split at a
  ·rename_i z;exact Na d j (by grind [kN]) a (λk c=>z1 d f c)
  rename_i G l z;split at a
  case h_2=>cases a
  rename_i v u D x;split at a
  case h_3=>cases a
  case h_2=>
   rename_i I B;cases c:gx ic.n ic.pin u with
   |false=>grind
   |true=>
   rw[c] at a;have o:=gx.ok d c;refine ih.skip j x o ?_ (z1 d f a);grind [kN]
  rename_i m B;cases c:gx ic.n ic.pin u with
  |false=>grind
  |true=>
  rw[c] at a;have o:=gx.ok d c;simp only[bG] at a;split at a
  ·rename_i w;obtain rfl:m=l:=(by grind);have r:∀e,gt (⟨(v,.val .bool m)::b.g,b.h⟩:aO).g e=gt b.g e:=λe=>by
    grind [iQ]
   refine ih.same r bn (Na d j ?_ a (λk c=>z1 d f c));grind [kN]
  rename_i w;have F:m=!l:=by cases m<;>cases l<;>first|rfl|cases w
  have r:∀e,gt (⟨(v,.val .bool (!l))::b.g,b.h⟩:aO).g e=gt b.g e:=λe=>(by grind [iQ]);refine ih.same r bn (ih.skip j x o ?_ (z1 d f a));grind [kN]
theorem VQ (h:ic.ae E C) {c:bU bR} {b:aO->bv A} {d:A} (g:∀a,b a=Y d->u a) (e:k1 ic c f i b=Y d):ih E C c f i u:=by have:=z1 (l2:=[]) h (λa j=>ih.nil (g a j)) e;grind
end
end
structure kr (s t:aO):Prop where
 g:∀k,gt s.g k=gt t.g k
 h:∀id,ar s.h id=ar t.h id
def kr.refl (a:aO):kr a a:=⟨λ_=>rfl,λ_=>rfl⟩
def kr.symm {c d:aO} (b:kr c d):kr d c:=⟨λa=>(b.g a).symm,λa=>(b.h a).symm⟩
def kr.trans {d e f:aO} (b:kr d e) (c:kr e f):kr d f:=⟨λa=>(b.g a).trans (c.g a),λa=>(b.h a).trans (c.h a)⟩
def cI.tX (a:cI) (e:aO) (b:X):gt (a.app e).g b=match a.d with
 |some (c,f)=>if c=b then f else fI a.S a.keep (gt e.g b)
 |none=>fI a.S a.keep (gt e.g b):=by
 obtain⟨c,h,i,k⟩:=a;cases c with
 |none=>
  show gt (nF h i e.g) b=_;rw[sQ,p2]
 |some j=>
  obtain⟨c,f⟩:=j;show gt ((c,f)::nF h i e.g) b=_;rw[iQ,sQ,p2]
theorem cI.sc (a:cI) (b:aO) (id:X):ar (a.app b).h id=(ar a.put id).or (if id∈a.S then bo else ar b.h id):=by show ar (a.put++q5 a.S b.h) id=_;rw[w7,kC,mW]
def kr.app {c t:aO} (b:kr c t) (a:cI):kr (a.app c) (a.app t):=
 ⟨λd=>by rw[cI.tX,cI.tX,b.g],λd=>by rw[cI.sc,cI.sc,b.h]⟩
def gJ.seq {a:eX} {c:aO} {d:ahQ} (b:kr i c) (e:gJ a i d v):gJ a c d v:=e.less (λf=>.inr (b.g f).symm) (λid=>(b.h id).symm)
def DA:bv (X×ak)->ahU->bA
 |some b,Y a=>bH b.1 a
 |none,bo=>bp
 |_,_=>bq
def s8:ak->bA
 |.dead=>bq
 |_=>bp
def ph (b c:ahY):bA:=b.all λa=>eP a c
theorem ph.ok (b:ph f w=bp):∀a∈f,a∈w:=λa c=>ha.1 (gY.1 b a c)
def pg (a:ahY):ak->bA
 |.ref id []=>eP (id+500000) a
 |_=>bq
def xm:Op->bA
 |.move _=>bp
 |_=>bq
def DV:X->bm aZ->bv (X×bm aZ)
 |k,.snd::a=>DV (k+1) a
 |k,.fst::a=>Y (k,a)
 |_,_=>bo
def xf:bm aZ->bv (X×bm aZ)
 |.deref::.unst::a=>DV 0 a
 |_=>bo
def sJ (q:bm aZ):ahU:=match q with
 |[]=>Y 1
 |[.deref]=>Y 2
 |q=>match xf q with
  |some (a,[])=>Y (2*a+4)
  |some (a,_::_)=>Y (2*a+5)
  |none=>bo
def qS:ak->bv ep
 |.ref id a=>match sJ a with
  |some b=>Y (id,b)
  |none=>bo
 |.addr id a=>match sJ a with
  |some b=>Y (id,b)
  |none=>bo
 |.app id a _ _ d=>match eP id d,xf a with
  |false,Y (c,_)=>Y (id,2*c+5)
  |_,_=>bo
 |_=>bo
def sT (b:ahY) (a:ak):bA:=match qS a with
 |some (id,d)=>cb id 500000&&(eP (id+1000000*d) b&&a.ids.all λc=>bH c id||eP c b)
 |none=>bq
def xO (b:bm aZ) (a:X):bA:=(bH a 1&&nC b)||((bH a 2&&nC b.tail&&(match b with|.deref::_=>bp|_=>bq))||match xf b with
 |some (c,d)=>b2 4 a&&(!(bH (a/2) (c+2))||(bH (a %2) 0&&nC d))
 |none=>bq)
def sb (a:bM->ak) (b:bR):bv (X×bm aZ):=match b.op with
 |.call {callee:=.builtin .append,args:=xs,argTypes:=_}=>match xs.toList with
  |[x,_]=>match a x with
   |.ref id (d::c)=>Y (id,d::c)
   |_=>bo
  |_=>bo
 |_=>bo
def Jh (c:ahY) (b:bM->ak) (d:bR):bA:=c.all λa=>cb a 1000000||(match sb b d with
 |some (id,e)=>bH (a %1000000) (id+500000)&&(cb id 500000&&xO e (a/1000000))
 |none=>bq)
def Wd (a:ahY) (c:bm (X×bm aZ)) (b:ahY):bA:=b.all λid=>cb id 500000&&((eP id a&&(eP (id+500000) a||k4 c (.ref id [])))||eP (id+1500000) a)
def Bx:ak->bA
 |.fe b=>b.all s8
 |a=>s8 a
def ot (op:Op) (b:ahY) (a:ak):bA:=match op with
 |.extract _ d=>match a with
  |.fe e=>match e[d]? with
   |some c=>s8 c&&(ph c.ids b||pg b c)
   |none=>bq
  |_=>bq
 |op=>Bx a&&(ph a.ids b||((xm op&&pg b a)||sT b a))
def rj (c e:ahY) (g:bM->ak) (f:bR) (b:cI):bA:=
 DA b.d f.dst&&(f.op.operands.toList.all λh=>ot f.op c (g h))&&Wd e b.keep b.S&&(b.put.all λa=>cb a.1 500000&&(eP a.1 e||eP (a.1+1500000) e))&&((match b.d with|some a=>ph a.2.ids c||(pg c a.2||sT c a.2)|none=>bp)&&Jh e g f)
theorem qT {e:Type} (c:bA) (d:bv b) (a:b->bv e):(bif c then d else bo).bind a=bif c then d.bind a else bo:=by grind
theorem adb (tt:bm (bF×ah)) (d:bm (X×aF)) (c:bF) (f e:ak) (a:cI->bv b):rL tt d c f e a=(rL tt d c f e Y).bind a:=by
 unfold rL;split
 ·rfl
 split
 case h_2=>rfl
 split
 ·rfl
 rw[qT];congr 1;split
 ·grind
 ·grind
 grind
theorem IC (tt:bm (bF×ah)) (d:bm (X×aF)) (c:bF) (g e f:ak) (a:cI->bv b):om tt d c g e f a=(om tt d c g e f Y).bind a:=by
 unfold om;split
 case h_2=>rfl
 split
 case h_2=>rfl
 split
 case h_2=>rfl
 split
 case h_2=>rfl
 grind
theorem W9 (tt:bm (bF×ah)) (e:bm (X×aF)) (d:X) (c:bF) (g f:ak) (a:cI->bv b):rx tt e d c g f a=(rx tt e d c g f Y).bind a:=by
 unfold rx;split
 case h_2=>rfl
 split
 case h_2=>rfl
 split
 case h_2=>rfl
 split
 case h_2=>rfl
 split
 case h_2=>rfl
 grind
theorem Us (tt:bm (bF×ah)) (d:bm (X×aF)) (c:bF) (g e f:ak) (a:cI->bv b):re tt d c g e f a=(re tt d c g e f Y).bind a:=by
 unfold re;split
 case h_2=>rfl
 rw[qT,IC]
theorem W2 (tt:bm (bF×ah)) (d:bm (X×aF)) (c:bF) (f e:ak) (a:cI->bv b):rv tt d c f e a=(rv tt d c f e Y).bind a:=by
 unfold rv;split
 case h_2=>rfl
 split
 case h_2=>rfl
 split
 case h_2=>rfl
 split
 case h_2=>rfl
 grind
theorem SI (tt:bm (bF×ah)) (d:bm (X×ah)) (f:bm (X×aF)) (e:X) (c:bF) (g h:ak) (a:cI->bv b):oT tt d f e c g h a=(oT tt d f e c g h Y).bind a:=by
 unfold oT;split
 ·rfl
 split
 ·split
  case h_2=>rfl
  rw[qT];congr 1;split
  ·grind
  grind
 ·split
  case h_2=>rfl
  split
  case h_2=>rfl
  grind
 ·split
  case h_2=>rfl
  grind
 ·grind
 rfl
theorem SL (tt:bm (bF×ah)) (d:bm (X×ah)) (f:bm (X×aF)) (e:X) (c:bF) (g h:ak) (a:cI->bv b):n6 tt d f e c g h a=(n6 tt d f e c g h Y).bind a:=by
 unfold n6;split
 ·unfold yD;split
  case h_2=>rfl
  split
  case h_2=>rfl
  grind
 grind [SI]
theorem TR (tt:bm (bF×ah)) (e:bm (X×aF)) (d:X) (c:bF) (f g:ak) (a:cI->bv b):qU tt e d c f g a=(qU tt e d c f g Y).bind a:=by
 unfold qU;split
 ·rfl
 split
 ·split
  case h_2=>rfl
  grind
 ·split
  case h_2=>rfl
  grind
 rfl
theorem S9 (tt:bm (bF×ah)) (d:bm (X×ah)) (g:bm (X×aF)) (f:bM->ak) (e:X) (c:bF) (h:bm (X×bM)) (a:cI->bv b):si tt d g f e c h a=(si tt d g f e c h Y).bind a:=by
 unfold si;split
 ·rfl
 split
 ·rw[qT];congr 1;split
  ·grind
  rfl
 rw[qT];congr 1;split
 ·rfl
 split
 ·grind
 rfl
theorem Tc (tt:bm (bF×ah)) (d:bm (X×ah)) (f:bm (X×aF)) (e:X) (c:bF) (g:ak) (a:cI->bv b):ub tt d f e c g a=(ub tt d f e c g Y).bind a:=by
 unfold ub;split
 ·split
  ·grind
  ·grind
  rfl
 rfl
theorem Tg (tt:bm (bF×ah)) (d:bm (X×ah)) (g:bm (X×aF)) (f:bM->ak) (e:X) (c:bF) (h:X) (i:bm (X×bM)) (a:cI->bv b):sk tt d g f e c h i a=(sk tt d g f e c h i Y).bind a:=by
 unfold sk;split
 ·grind
 rfl
theorem zK {e:gS} (c:bM->ak) (d:bm (X×aF)) (f:bR) (a:cI->bv b):aq e c d f a=(aq e c d f Y).bind a:=by
 unfold aq;split
 ·split
  ·grind [adb]
  ·grind [IC]
  ·grind [IC]
  ·grind [Us]
  ·grind [W2]
  rfl
 rw[qT];congr 1;split
 ·grind
 ·split
  case h_2=>rfl
  split
  ·rfl
  simp_all [nB,Option.bind_assoc,qT,aC]
 ·split
  case h_2=>rfl
  rw[qT];grind [SL]
 ·grind [TR]
 ·split
  ·rfl
  ·rfl
  ·rfl
  ·grind
  grind
 ·grind [S9]
 ·grind [W9]
 ·grind [Tc]
 ·grind [Tg]
 grind
theorem T8 {e:gS} (c:bM->ak) (d:bm (X×aF)) (f:bR) (a:cI->bv b):jX e c d f a=(jX e c d f Y).bind a:=by
 unfold jX;split
 ·grind [zK]
 rw[qT];congr 1;refine(zK _ _ _ _).trans (Eq.trans ?_ (b3 (λg=>bB g a) (zK _ _ _ _)).symm);grind
theorem MW:∀{d:bm aZ} {b a:X} {e:bm aZ},DV b d=Y (a,e)->b<=a/\d=bJ (a-b) .snd++.fst::e
 |[],_,_,_,c=>by cases c
 |s::d,b,a,e,c=>by
  cases s<;>simp only[DV] at c<;>first|(cases c;done)|skip
  ·simp_all
  obtain⟨g,f⟩:=MW c;refine⟨aa,?_⟩;rw[(aa:a-b=(a-(b+1))+1),List.replicate_succ,nW,<-f]
theorem DW {c:bm aZ} (b:xf j=Y (a,c)):j=.deref::.unst::(bJ a .snd++.fst::c):=by
 unfold xf at b;split at b
 ·rename_i j;have:=(MW b).2;grind
 grind
def He:∀{j k:X} {r r':bm aZ},j≠k->kW (bJ j .snd++.fst::r) (bJ k .snd++.fst::r')=bp
 |0,0,_,_,a=>absurd rfl a
 |0,k+1,_,_,_=>rfl
 |j+1,0,_,_,_=>rfl
 |j+1,k+1,r,r',a=>He (j:=j) (k:=k) (r:=r) (r':=r') (λb=>a (by rw[b]))
def Nq:∀{j:X} {r:bm aZ},g8 (bJ j .snd++.fst::r) (bJ j .snd++[.fst])=nC r
 |0,r=>by cases r<;>rfl
 |j+1,r=>Nq (j:=j) (r:=r)
def Np (a:bm aZ):g8 a []=nC a:=by cases a<;>rfl
def aa4 (c:sJ j=Y a):(a=1↔j=[])/\(a=2↔j=[.deref])/\(4<=a->∃d e,xf j=Y (d,e)/\((e=[]/\a=2*d+4)\/(e≠[]/\a=2*d+5)))/\(a=1\/a=2\/4<=a):=by
 unfold sJ at c;split at c
 ·cases c;simp
 ·cases c;simp
 rename_i g h;split at c
 ·rename_i d f;cases c;refine⟨⟨λb=>by omega,λb=>absurd b g⟩,⟨λb=>by omega,λb=>absurd b h⟩,λ_=>⟨d,[],f,.inl ⟨bn,bn⟩⟩,aa⟩
 ·rename_i d i e f;cases c;refine⟨⟨λb=>by omega,λb=>absurd b g⟩,⟨λb=>by omega,λb=>absurd b h⟩,λ_=>⟨d,i::e,f,.inr ⟨ac,bn⟩⟩,aa⟩
 cases c
def aa5 {i:bm aZ} (b:xO j a=bp) (s:sJ i=Y a):g8 j i=bp:=by
 obtain⟨l,m,n,w⟩:=aa4 s;unfold xO at b;rcases Bc.1 b with b|b
 ·obtain⟨c,f⟩:=tB.1 b;rw[l.1 (fv c),Np];exact f
 rcases Bc.1 b with b|b
 ·obtain⟨b,g⟩:=tB.1 b;obtain⟨c,f⟩:=tB.1 b;rw[m.1 (fv c)];cases j with
  |nil=>cases g
  |cons v j=>
   cases v<;>first|(cases g;done)|skip
   show g8 j []=bp;rw[Np];exact f
 split at b
 ·rename_i d k t;obtain⟨o,b⟩:=tB.1 b;obtain⟨h,u,r,q⟩:=n (gT o);rw[DW r,DW t];show g8 (bJ d .snd++.fst::k) (bJ h .snd++.fst::u)=bp;by_cases c:d=h
  ·subst c;rcases q with⟨rfl,p⟩|⟨x,p⟩
   ·have aq:a/2=d+2:=aa;have e:a %2=0:=aa;rw[aq,e] at b;have:nC k=bp:=(by simpa using b);rw[Nq,this]
   have aq:a/2=d+2:=aa;have e:a %2=1:=aa;rw[aq,e] at b;simp at b
  exact Hd (He c)
 cases b
theorem aa3 {id:X} (b:xO j a=bp) (i:qS d=Y (id,a)) (n:∀c∈d.ids,c=id\/c∉f):kf f [(id,j),(id,[])] d=bp:=by
 have z:∀h,sJ h=Y a->g8 j h=bp:=λh p=>aa5 b p;have v:∀g:X,bH g g=bp:=ajT;unfold qS at i;split at i
 ·grind [kf,k4]
 ·grind [kf,k4,H4]
 ·rename_i g h B A l;split at i
  case h_2=>cases i
  rename_i k t x o;cases i;have w:kW j h=bp:=by
   unfold xO at b;rcases Bc.1 b with b|b
   ·have:=fv (tB.1 b).1;omega
   rcases Bc.1 b with b|b
   ·have:=fv (tB.1 (tB.1 b).1).1;omega
   split at b
   ·rename_i c s q;obtain⟨_,b⟩:=tB.1 b;rw[DW o,DW q];show kW (bJ c .snd++.fst::s) (bJ k .snd++.fst::t)=bp;by_cases e:c=k
    ·subst e;have aq:(2*c+5)/2=c+2:=aa;have m:(2*c+5) %2=1:=aa;rw[aq,m] at b;simp at b
    exact He e
   cases b
  have y:(l.all λg=>!(eP g f))=bp:=gY.2 λu r=>by
   rcases n u (hY _ r) with e|e
   ·grind [ha]
   grind [ha]
  show((l.all λg=>!(eP g f))&&([(id,j),(id,[])].any λe=>bH e.1 id&&kW e.2 h))=bp;grind
 grind
section
theorem Iz {g B:bM->ak} {b:bm (X×bM)} (d:∀e∈b,g e.2=B e.2):∀(f:ah) (a:X),p6 g b f a=p6 B b f a
 |.pr j h,a=>by
  simp only[p6,Iz d h (a+1)];cases i:mb b a with
  |none=>rfl
  |some c=>
   have:g c=B c:=d (a,c) (Aa i);grind
 |.nil,_=>rfl
 |.int _,_=>rfl
 |.bool,_=>rfl
 |.str,_=>rfl
 |.a2 _ _,_=>rfl
 |.ptr _ _,_=>rfl
 |.osl _,_=>rfl
 |.optr _,_=>rfl
 |.st _,_=>rfl
 |.eL,_=>rfl
 |.mp _,_=>rfl
 |.fx _ _,_=>rfl
 |.fn _ _,_=>rfl
theorem N4 {h:bm (X×aF)} {g B:bM->ak} {b:bm (X×bM)} (d:∀e∈b,g e.2=B e.2):∀(f:ah) (a:X),mY h g b f a=mY h B b f a
 |.pr k i,a=>by
  simp only[mY,N4 d i (a+1)];cases j:mb b a with
  |none=>rfl
  |some c=>
   have:g c=B c:=d (a,c) (Aa j);grind
 |.nil,_=>rfl
 |.int _,_=>rfl
 |.bool,_=>rfl
 |.str,_=>rfl
 |.a2 _ _,_=>rfl
 |.ptr _ _,_=>rfl
 |.osl _,_=>rfl
 |.optr _,_=>rfl
 |.st _,_=>rfl
 |.eL,_=>rfl
 |.mp _,_=>rfl
 |.fx _ _,_=>rfl
 |.fn _ _,_=>rfl
section
variable {tt:bm (bF×ah)} {an:bm (X×ah)} {h A:bm (X×aF)} {d:X} {g B:bM->ak}
theorem EO {a:ahP} (c:∀b∈a.toArray,g b=B b):a.map g=a.map B:=by
 cases a with
 |none=>rfl
 |some b=>grind
theorem Uz {f:Op} (b:∀a∈f.operands,g a=B a):g2 tt an h g d f=g2 tt an h B d f:=by
 cases f
 case build T ps=>
  have:∀e∈ps.toList,g e.2=B e.2:=λe m=>b e.2 (by simp only[bV,yq,eY];grind);grind [Iz,g2,yJ]
 case buildSlice T n ps=>
  have:∀e∈ps.toList,g e.2=B e.2:=λe m=>b e.2 (by simp only[bV,yq,eY];grind);grind [aii,g2,ww]
 case slice T a j hi p=>
  simp only[bV] at b;have t:g a=B a:=b a ac;have u:j.map g=j.map B:=EO (λi o=>b i (by grind));have v:hi.map g=hi.map B:=EO (λi o=>b i (by grind));cases p
  ·grind [g2]
  rfl
 case makeMap T q=>
  cases q<;>rfl
 case makeFunc l s cs=>
  cases l<;>try rfl
  grind [aii,aiI,g2,bV]
 case call c=>
  obtain⟨r,k,y⟩:=c;have w:∀a∈k.toList,g a=B a:=λa x=>b a (by grind [aiI,bV,aiD]);clear b;simp only[g2];split
  ·grind
  ·grind [aii]
  ·grind [aii]
  rfl
 all_goals (simp only[bV] at b;simp only[g2])
 all_goals (first|rfl|(simp_all;done))
theorem UC {e:Op} (b:∀a∈e.operands,g a=B a):kz tt an h g d e=kz tt an h B d e:=by
 cases e
 case slice T a j hi l=>
  simp only[bV] at b;have i:g a=B a:=b a ac;have n:j.map g=j.map B:=EO (λf k=>b f (by grind));have o:hi.map g=hi.map B:=EO (λf k=>b f (by grind));cases l
  ·simp_all [kz]
  rfl
 case call c=>
  grind [aiI,aq,kz,bV,aiD]
 case unOp m T a=>
  have i:g a=B a:=b a (by simp[bV]);cases m<;>simp only[kz,i]
 all_goals (simp only[bV] at b;simp only[kz])
 all_goals (first|rfl|(simp_all;done))
theorem Mg {k:gS} {n:bR} {r:cI->bv b} (c:∀j∈n.op.operands,g j=B j):aq k g h n r=aq k B h n r:=by
 have x:=λ(d:X)=>UC (tt:=k.tt) (an:=k.an) (h:=h) (d:=d) c;have w:=λ(d:X)=>Uz (tt:=k.tt) (an:=k.an) (h:=h) (d:=d) c;unfold aq;cases y:n.dst with
 |none=>
  simp only;split
  ·grind [bV]
  ·grind [bV]
  ·grind [bV]
  ·grind [bV]
  ·rename_i i t e;rw[e] at c;split
   ·rename_i j u l s aq _;have p:∀a∈i.toList,g a=B a:=λa m=>c a (by grind [aiI,bV,aiD]);grind
   rfl
  rfl
 |some d=>
  simp only;congr 1;split
  ·grind [bV]
  ·rename_i a i _ e;rw[e] at c;have:i.toList.map g=i.toList.map B:=ia λj p=>c j (by grind [aiI,bV,aiD]);have m:g a=B a:=c a (by simp[bV,aiD]);rw[this,m]
  ·rename_i i t e;rw[e] at c;split
   ·rename_i j u l s aq _;have p:∀a∈i.toList,g a=B a:=λa m=>c a (by grind [aiI,bV,aiD]);grind
   rfl
  ·rename_i i t e;rw[e] at c;split
   ·rename_i j u l s aq _;have p:∀a∈i.toList,g a=B a:=λa m=>c a (by grind [aiI,bV,aiD]);grind
   rfl
  ·grind [bV]
  ·rename_i l q e;rw[e] at c;have o:∀f∈q.toList,g f.2=B f.2:=λf v=>c f.2 (by simp only[bV,yq,eY];grind);simp only[si,Iz o,N4 o]
  ·grind [bV]
  ·grind [bV]
  ·rename_i l z q e;rw[e] at c;have o:∀f∈q.toList,g f.2=B f.2:=λf v=>c f.2 (by simp only[bV,yq,eY];grind);grind [aii,sk]
  grind
def gg (h A:bm (X×aF)) (a:ak):Prop:=∀id∈a.ids,ar h id=ar A id
def abd (a:gg h A t):rD h t=rD A t:=by
 cases t with
 |ref id b=>simp only[rD,a id (by simp[bT])]
 |_=>rfl
theorem abc {id:X} (a:rD h t=Y (id,j)):id∈t.ids:=by
 unfold rD at a;split at a
 ·grind [bT]
 ·grind [bT]
 grind
theorem adc {a:ak} {d:cI->bv b} (e:gg h A a) (g:gg h A t):rL tt h c a t d=rL tt A c a t d:=by
 unfold rL;rw[<-abd e];split
 ·rfl
 rename_i id j f;rw[e id (abc f)];cases t with
 |ref i k=>simp only[g i (by simp[bT])]
 |_=>rfl
theorem Ry (a:gg h A t):lj h k t=lj A k t:=by
 cases t with
 |ref id b=>simp only[lj,a id (by simp[bT])]
 |view id b e d=>simp only[lj,a id (by simp[bT])]
 |val c g=>cases c<;>rfl
 |dg f=>unfold lj;grind
 |_=>rfl
theorem SJ {e:ak} {j:cI->bv b} (f:gg h A e) (k:gg h A t) (n:ar h d=ar A d):oT tt an h d c e t j=oT tt an A d c e t j:=by
 unfold oT;split
 ·rfl
 have g:∀i:ah,lj h i t=lj A i t:=λi=>Ry k;cases e with
 |ref id a=>
  cases a with
  |nil=>
   simp only[f id (by simp[bT]),g];cases t with
   |ref o l=>
    cases l with
    |nil=>simp only[k o (by simp[bT])]
    |cons m l=>rfl
   |_=>rfl
  |cons m a=>simp only[f id (by simp[bT]),g,n]
 |view id a q p=>
  cases a with
  |nil=>simp only[f id (by simp[bT]),g]
  |cons m a=>rfl
 |dg r=>grind
 |_=>rfl
def aaT {a:ak} (d:gg h A t):vj h a t=vj A a t:=by
 unfold vj;cases a with
 |ref id b=>
  cases b with
  |nil=>rfl
  |cons f b=>
   cases t with
   |ref e c=>
    cases c with
    |nil=>simp only[d e (by simp[bT])]
    |cons g c=>rfl
   |_=>rfl
 |_=>rfl
theorem SM {a:ak} {e:cI->bv b} (g:gg h A t) (i:gg h A a) (f:ar h d=ar A d):n6 tt an h d c t a e=n6 tt an A d c t a e:=by
 unfold n6;rw[aaT i,SJ g i f];split
 ·rename_i id l k m j;obtain⟨rfl,_,_⟩:=Jf j;unfold yD;rw[g id (by simp[bT]),f]
 rfl
theorem TS {e:ak} {g:cI->bv b} (i:gg h A e) (k:gg h A t):qU tt h d c e t g=qU tt A d c e t g:=by
 unfold qU;split
 ·rfl
 have j:∀f:ah,lj h f t=lj A f t:=λf=>Ry k;cases e with
 |ref id a=>
  cases a with
  |nil=>simp only[i id (by simp[bT]),j]
  |cons l a=>rfl
 |view id a n m=>
  cases a with
  |nil=>simp only[i id (by simp[bT]),j]
  |cons l a=>rfl
 |_=>rfl
theorem Gi (b:gg h A t):pN an h d t=pN an A d t:=by
 cases t with
 |ref id a=>
  cases a with
  |nil=>simp only[pN,b id (by simp[bT])]
  |cons c a=>rfl
 |view id a f e=>
  cases a with
  |nil=>simp only[pN,b id (by simp[bT])]
  |cons c a=>rfl
 |dg t=>unfold pN;grind
 |_=>rfl
def aaZ (b:gg h A t):xM h k t=xM A k t:=by
 cases t with
 |ref id a=>
  cases a with
  |nil=>simp only[xM,b id (by simp[bT])]
  |cons c a=>rfl
 |_=>rfl
def N5 {b:bm (X×bM)} (c:∀i∈b,gg h A (g i.2)):∀(d:ah) (a:X),mY h g b d a=mY A g b d a
 |.pr k e,a=>by
  simp only[mY,N5 c e (a+1)];cases f:mb b a with
  |none=>rfl
  |some j=>simp only[aaZ (c (a,j) (Aa f))]
 |.nil,_=>rfl
 |.int _,_=>rfl
 |.bool,_=>rfl
 |.str,_=>rfl
 |.a2 _ _,_=>rfl
 |.ptr _ _,_=>rfl
 |.osl _,_=>rfl
 |.optr _,_=>rfl
 |.st _,_=>rfl
 |.eL,_=>rfl
 |.mp _,_=>rfl
 |.fx _ _,_=>rfl
 |.fn _ _,_=>rfl
def TA (b:gg h A t):ug h k t=ug A k t:=by
 cases t with
 |ref id a=>
  cases a with
  |nil=>simp only[ug,b id (by simp[bT])]
  |cons c a=>rfl
 |_=>rfl
theorem LU {c:ah}:∀{l:bm ak},(∀a∈l,gg h A a)->uh h c l=uh A c l
 |[],_=>rfl
 |x::d,b=>by simp only[uh,TA (b x ac),LU (l:=d) (λa e=>b a (by grind))]
def Gg {v:ak} (a:gg h A v):nt h f v k=nt A f v k:=by
 cases v with
 |ref id b=>simp only[nt,a id (by simp[bT])]
 |_=>rfl
theorem ak.Iu {f:X} {a:bm ak} {id:X} (c:t∈a) (e:id∈t.ids):id∈(ak.eA f a).ids:=by obtain⟨b,d,rfl⟩:=ht.1 c;exact ak.Ag (l:=a) (i:=b) (ba d) e
def LA (a:gg h A t):ue h f t k=ue A f t k:=by
 unfold ue;split
 ·rename_i b d;rw[Gg (v:=b) (λid c=>a id (by simpa[bT] using c))]
 exact Gg a
def LC {c:ahY}:∀{l:bm ak} {b:ah},(∀a∈l,gg h A a)->sl h c l b=sl A c l b
 |[],b,_=>by cases b<;>rfl
 |a::l,b,d=>by
  cases b<;>first|rfl|skip
  simp only[sl,LA (d a ac),LC (l:=l) (λa e=>d a (by simp[e]))]
def Tp (a:gg h A t):wA h w t k=wA A w t k:=by
 unfold wA;split
 ·rename_i e b i j;rw[LC (l:=b) (λg c id d=>a id (by
   have:=ak.Iu (f:=e) c d;simpa[bT] using this))]
 exact LA a
theorem MZ {b:ahY}:∀{τs:bm ah} {avs:bm ak},(∀a∈avs,gg h A a)->o5 h b τs avs=o5 A b τs avs
 |[],[],_=>rfl
 |[],_::_,_=>rfl
 |_::_,[],_=>rfl
 |τ::e,d::as,c=>by simp only[o5,Tp (c d ac),MZ (τs:=e) (avs:=as) (λa f=>c a (by grind))]
theorem sN {S:ahY}:∀{ps:bm hl} {avs:bm ak},(∀b∈avs,gg h A b)->fM h S ps avs=fM A S ps avs
 |[],[],_=>rfl
 |[],_::_,_=>rfl
 |p::d,[],_=>by cases p<;>rfl
 |.v q::d,e::as,a=>by simp only[fM,Gg (a e ac),sN (ps:=d) (avs:=as) (λb g=>a b (by grind))]
 |.c z r::d,e::as,a=>by
  have f:=sN (S:=S) (ps:=d) (avs:=as) (λb g=>a b (by grind));cases e with
  |eA u i=>
   have:o5 h S r i=o5 A S r i:=MZ (λb g id t=>a (.eA u i) ac id (ak.Iu g t));grind [fM]
  |_=>rfl
 |.m q::d,e::as,a=>by
  have f:=sN (S:=S) (ps:=d) (avs:=as) (λb g=>a b (by grind));cases e with
  |ref id p=>
   cases p with
   |nil=>simp only[fM,a (.ref id []) ac id (by simp[bT]),f]
   |cons l p=>rfl
  |_=>rfl
 |.o q::d,e::as,a=>by
  have f:=sN (S:=S) (ps:=d) (avs:=as) (λb g=>a b (by grind));cases e with
  |ref id p=>
   cases p with
   |nil=>simp only[fM,a (.ref id []) ac id (by simp[bT]),f]
   |cons l p=>rfl
  |dg x=>grind [fM]
  |_=>rfl
 |.w B::d,e::as,a=>by
  have f:=sN (S:=S) (ps:=d) (avs:=as) (λb g=>a b (by grind));cases e with
  |view id p k j=>
   cases p with
   |nil=>simp only[fM,a (.view id [] k j) ac id (by simp[bT]),f]
   |cons l p=>rfl
  |_=>rfl
 |.n::d,e::as,a=>by
  have f:=sN (S:=S) (ps:=d) (avs:=as) (λb g=>a b (by grind));cases e with
  |dg x=>grind [fM]
  |_=>rfl
 |.s y i::d,e::as,a=>by
  have f:=sN (S:=S) (ps:=d) (avs:=as) (λb g=>a b (by grind));cases e with
  |ref id p=>grind [fM]
  |view id p k j=>grind [fM]
  |_=>simp only[fM,f]
theorem WB (a:gg h A t):u3 tt h c t=u3 tt A c t:=by
 unfold u3;cases t with
 |ref id d=>simp only[a id (by simp[bT])]
 |app id d b i e=>simp only[a id (by simp[bT])]
 |val b j=>cases gX tt c with|none=>rfl|some f=>cases b<;>rfl
 |dg g=>grind
 |_=>rfl
theorem Xh (a:gg h A t):vb tt h c t=vb tt A c t:=by
 unfold vb;cases t with
 |ref id d=>simp only[a id (by simp[bT])]
 |val b f=>cases k3 tt c with|none=>rfl|some e=>cases b<;>rfl
 |_=>rfl
def WL {a:ak} {b:bA} (d:gg h A t):u5 tt h c t a b=u5 tt A c t a b:=by
 unfold u5;cases t with
 |ref id f=>simp only[d id (by simp[bT])]
 |val e g=>split<;>first|rfl|(cases e<;>rfl)
 |_=>split<;>rfl
theorem Xf (a:ar h d=ar A d):xE tt an h d c=xE tt an A d c:=by grind [xE]
theorem ID {a:cI->bv b} {d e:ak} (f:gg h A t):om tt h c t d e a=om tt A c t d e a:=by
 unfold om;cases t with
 |ref id g=>simp only[f id (by simp[bT])]
 |_=>rfl
theorem Xa {a:cI->bv b} {e:ak} (f:gg h A t):rx tt h d c t e a=rx tt A d c t e a:=by
 unfold rx;cases t with
 |ref id g=>simp only[f id (by simp[bT])]
 |_=>rfl
theorem Ut {a:cI->bv b} {d e:ak} (f:gg h A t):re tt h c t d e a=re tt A c t d e a:=by unfold re;grind [ID]
theorem W3 {a:cI->bv b} {d:ak} (e:gg h A t):rv tt h c t d a=rv tt A c t d a:=by
 unfold rv;cases t with
 |ref id f=>simp only[e id (by simp[bT])]
 |_=>rfl
def VR {b:ak} (a:gg h A t):u0 tt h c t b=u0 tt A c t b:=by
 unfold u0;cases t with
 |ref id d=>simp only[a id (by simp[bT])]
 |view id d g f=>simp only[a id (by simp[bT])]
 |val e j=>cases e<;>rfl
 |dg i=>rfl
 |_=>rfl
theorem WI (a:gg h A t):u4 tt h c t=u4 tt A c t:=by
 unfold u4;cases t with
 |ref id b=>simp only[a id (by simp[bT])]
 |addr id b=>simp only[a id (by simp[bT])]
 |val d f=>cases d<;>first|rfl|grind
 |dg e=>rfl
 |_=>rfl
theorem U6 (b:gg h A t):uU tt h c t a=uU tt A c t a:=by
 unfold uU;cases t with
 |ref id d=>simp only[b id (by simp[bT])]
 |addr id d=>simp only[b id (by simp[bT])]
 |val e g=>cases e<;>first|rfl|grind
 |dg f=>rfl
 |_=>rfl
def U8 (b:gg h A t):jf.xc tt h c t a=jf.xc tt A c t a:=by
 unfold jf.xc;cases t with
 |ref id e=>simp only[b id (by simp[bT])]
 |val d g=>cases d<;>rfl
 |dg f=>rfl
 |_=>rfl
def Xu (a:gg h A t):ve h t=ve A t:=by
 unfold ve;cases t with
 |ref id c=>simp only[a id (by simp[bT])]
 |val b e=>cases b<;>rfl
 |dg d=>rfl
 |_=>rfl
def acV {b a:bv ak} (d:gg h A t):vy tt h c t b a=vy tt A c t b a:=by
 unfold vy;cases t with
 |ref id f=>simp only[d id (by simp[bT])]
 |val e i=>cases e<;>rfl
 |dg g=>rfl
 |_=>rfl
theorem WX {a:ak} (b:ar h d=ar A d):u7 tt an h d c a t=u7 tt an A d c a t:=by grind [u7]
theorem SC (a:ar h d=ar A d):wi tt an h d c=wi tt an A d c:=by grind [wi]
theorem UA {e:Op} (b:∀a∈e.operands,gg h A (g a)) (f:ar h d=ar A d):g2 tt an h g d e=g2 tt an A g d e:=by
 cases e
 case box T a=>grind [g2,yK]
 case buildSlice T n ps=>grind [g2,ww]
 case alloc T=>exact SC f
 case makeSlice T l c=>exact WX f
 case makeMap T p=>
  cases p
  ·exact Xf f
  rfl
 case lookup T a k ok=>exact WL (b a (by simp[bV]))
 case load T a=>exact WI (b a (by simp[bV]))
 case nilCheck a=>exact Xu (b a (by simp[bV]))
 case indexAddr T a i=>exact VR (b a (by simp[bV]))
 case fieldAddr T a n=>exact U6 (b a (by simp[bV]))
 case field T a n=>exact U8 (b a (by simp[bV]))
 case slice T a u hi o=>
  cases o
  ·exact acV (b a (by simp[bV]))
  rfl
 case call c=>
  obtain⟨q,j,v⟩:=c;have s:∀a∈j.toList,gg h A (g a):=λa t=>b a (by grind [aiI,bV,aiD]);clear b;simp only[g2];split
  ·grind [Xh,WB]
  ·rfl
  ·rfl
  rfl
 case makeFunc m r cs=>cases m<;>rfl
 all_goals rfl
theorem UD {n:Op} (j:∀b∈n.operands,gg h A (g b)) (z:ar h d=ar A d):kz tt an h g d n=kz tt an A g d n:=by
 cases n
 case lookup f b k ok=>
  have a:=j b (by simp[bV]);simp only[kz];split
  ·rename_i w id e B aq r y;rw[r] at a;rw[a id (by simp[bT])]
  rfl
 case makeSlice f l c=>grind [kz]
 case unOp v f b=>cases v<;>rfl
 case indexAddr f b i=>
  have a:=j b (by simp[bV]);simp only[kz];revert a;cases g b with
  |ref id e=>intro a;simp only[a id (by simp[bT])]
  |view id e t s=>
   intro a;cases e with
   |nil=>simp only[a id (by simp[bT])]
   |cons=>rfl
  |val m p=>intro _;cases m<;>rfl
  |_=>intro _;rfl
 case load f b=>
  have a:=j b (by simp[bV]);simp only[kz];revert a;cases g b with
  |ref id e=>intro a;simp only[a id (by simp[bT])]
  |addr id e=>intro a;simp only[a id (by simp[bT])]
  |val m p=>intro _;cases m<;>rfl
  |_=>intro _;rfl
 case slice f b t s u=>
  have a:=j b (by simp[bV]);cases u
  ·simp only[kz];revert a;cases g b with
   |ref id e=>intro a;simp only[a id (by simp[bT])]
   |val m p=>intro _;cases m<;>rfl
   |_=>intro _;rfl
  rfl
 case call c=>
  obtain⟨x,q,C⟩:=c;have o:∀b∈q.toList,gg h A (g b):=λb a=>j b (by grind [aiI,bV,aiD]);clear j;simp only[kz];split
  ·rename_i b f aq _;rw[aq] at o;have a:=o b ac;cases gX tt f with
   |none=>
    revert a;cases g b with
    |ref id e=>intro a;simp only;rw[a id (by simp[bT])]
    |_=>intro _;rfl
   |some w=>
    revert a;cases g b with
    |ref id e=>intro a;simp only;rw[a id (by simp[bT])]
    |_=>intro _;rfl
  rfl
 all_goals rfl
theorem s2 {b:Callee} {a:bU bM} {c:bU bF} (d:n∈a.toList):n∈(Op.call {callee:=b,args:=a,argTypes:=c}).operands:=by grind [aiI,bV,aiD]
theorem Mh {t:gS} {s:bR} (a:aq t g h s Y=Y q) (e:∀l∈s.op.operands,gg h A (g l)) (o:∀d,s.dst=Y d->ar h d=ar A d) (p:∀b∈q.put,ar h b.1=ar A b.1):aq t g A s Y=Y q:=by
 unfold aq at a|-;cases v:s.dst with
 |none=>
  rw[v] at a;simp only at a|-;split at a
  ·grind [adc,bV]
  ·grind [ID,bV]
  ·grind [ID,bV]
  ·grind [Ut,bV]
  ·grind [W3,s2]
  omega
 |some d=>
  rw[v] at a;have o:=o d v;simp only at a|-;cases G:gx t.n t.pin d with
  |false=>grind
  |true=>
  rw[G] at a;simp only[bG] at a|-;split at a
  ·omega
  ·rename_i J z _ i;rw[i] at e;split at a
   case h_2=>cases a
   rename_i D x I
   try rw[I]
   try simp only
   have F:∀j∈z.toList.map g++x,gg h A j:=λj k=>by
    rcases hX.1 k with k|k
    ·grind [s2]
    intro id N;exact e J (by simp[bV,aiD]) id (by grind [ak.Iu])
   split at a
   ·cases a
   rename_i c K;cases E:bH c.f D with
   |false=>grind
   |true=>
   rw[E] at a;simp only[bG,nB] at a|-;rw[<-sN F];obtain⟨j,k,a⟩:=eO.1 a;obtain⟨m,H,a⟩:=eO.1 a;simp only[k,H,aC];cases C:nu d ⟨[],h⟩ (z.toList.map g++x) (gG c.ps j m) (iT c.rs (ip c.ps m)) with
   |false=>grind
   |true=>
   rw[C] at a;have L:nu d ⟨[],A⟩ (z.toList.map g++x) (gG c.ps j m) (iT c.rs (ip c.ps m))=bp:=(by rw[<-C];unfold nu;congr 1;rw[vN,gY,gY];cases a;have w:∀b∈iU d (iR (iT c.rs (ip c.ps m))) 0 (iT c.rs (ip c.ps m)),ar h b.1=ar A b.1:=λb w=>p b (by grind);grind);grind
  ·grind [SM,s2]
  ·grind [TS,s2]
  ·rename_i l i;rw[i] at e;have r:=e l (by simp[bV]);revert a r;cases g l with
   |val T S=>grind
   |dg R=>grind [Gi]
   |ref id u=>grind [Gi]
   |view id u O M=>grind [Gi]
   |_=>intro a _;exact a
  ·rename_i B y i;rw[i] at e;have p:∀b∈y.toList,gg h A (g b.2):=λb w=>e b.2 (by simp only[bV,yq,eY];grind);rw[<-a];simp only[si,N5 p,o]
  ·grind [Xa,bV]
  ·rename_i B l i;rw[i] at e;have r:=e l (by simp[bV]);rw[<-a];simp only[ub,o];revert r;cases g l with
   |ref id u=>
    intro r;cases u with
    |nil=>simp only[r id (by simp[bT])]
    |cons Q u=>rfl
   |_=>intro _;rfl
  ·rename_i B P y i;rw[i] at e;have p:∀j∈y.toList.map (λb=>g b.2),gg h A j:=λj k=>by
    obtain⟨b,w,rfl⟩:=eY.1 k;exact e b.2 (by simp only[bV,yq,eY];grind)
   rw[<-a];simp only[sk,LU p,o]
  grind [UD,UA]
end
theorem Rp {d:Op}:∀e∈rN d,e∈d.operands:=by
 intro e b;cases d<;>simp only[rN] at b<;>first|(cases b;done)|skip
 case assign y=>grind [bV]
 case box T y=>grind [bV]
 case build T ps=>grind [bV]
 case buildSlice T n ps=>grind [bV]
 case store T a v=>grind [bV]
 case mapUpdate T a k v=>grind [bV]
 case insert T a k v=>grind [bV]
 case entryStore T a k v=>grind [bV]
 case call c=>
  obtain⟨g,f,h⟩:=c;simp only at b;split at b
  ·exact s2 b
  ·exact s2 (List.mem_of_mem_drop b)
  grind
theorem DT {e:ah0} {f:X} {g:bM->ak}:∀{a:bm bM},∀id∈mv e f g a,∃x∈a,g x=.ref id []
 |[],id,h=>by cases h
 |x::a,id,h=>by
  simp only[mv] at h;split at h
  ·rename_i j i;rw[Bool.cond_eq_ite] at h;split at h
   ·rcases fV.1 h with rfl|h
    ·grind
    obtain⟨d,c,b⟩:=DT id h;grind
   obtain⟨d,c,b⟩:=DT id h;grind
  obtain⟨d,c,b⟩:=DT id h;grind
theorem MV {a:ah0} {c:X} {g B:bM->ak}:∀{l:bm bM},(∀x∈l,g x=B x)->mv a c g l=mv a c B l
 |[],_=>rfl
 |x::l,b=>by simp only[mv,b x ac,MV (l:=l) (λd e=>b d (by grind))]
theorem MT {h A:bm (X×aF)} (c:∀id∈f,ar h id=ar A id) (a:ak):gW h f a=gW A f a:=by
 cases a with
 |ref id b=>
  cases b with
  |nil=>
   grind [ha,eP,gW]
  |cons d b=>rfl
 |_=>rfl
theorem Vl {h A:bm (X×aF)} (d:∀id∈f,ar h id=ar A id) (a:ak):iA h f a=iA A f a:=by
 by_cases c:∃b,a=.fe b
 ·obtain⟨b,rfl⟩:=c;grind [aii,MT,iA]
 grind [HH,MT]
theorem MS {h:bm (X×aF)}:∀id∈(gW h f d).ids,id∈d.ids:=by
 intro id b;rcases mu h f d with⟨e,c,rfl,_,_,a⟩|⟨a,_⟩|⟨a,_⟩
 ·rw[a] at b;have:(rm c).ids=[]:=(by unfold rm;split<;>rfl);grind
 ·rw[a] at b;cases b
 grind
def Nc {c:ak->ak} (d:∀a,∀id∈(c a).ids,id∈a.ids):∀{b:bm ak} {id:X},id∈aiX (b.map c)->id∈aiX b
 |[],_,h=>h
 |a::b,id,h=>by simp only[ie,aiX,hX] at h|-;exact h.imp (d a id) (Nc d)
theorem Vk {h:bm (X×aF)}:∀id∈(iA h f d).ids,id∈d.ids:=by
 by_cases c:∃a,d=.fe a
 ·obtain⟨a,rfl⟩:=c;exactλid b=>Nc (λd=>MS) b
 grind [HH,MS]
theorem Ua {i:gS} {g B:bM->ak} {h A:bm (X×aF)} {b:bR} (c:jX i g h b Y=Y q) (o:∀a∈b.op.operands,g a=B a) (n:∀a∈b.op.operands,gg h A (g a)) (t:∀d,b.dst=Y d->ar h d=ar A d) (y:∀l∈q.put,ar h l.1=ar A l.1):jX i B A b Y=Y q:=by
 unfold jX at c|-;rw[<-MV (λa f=>o a (Rp a f))];split
 ·rename_i j;rw[j] at c;rw[<-Mg o];grind [Mh]
 rename_i x;split at c
 ·grind
 have j:∀id∈mv i.p0 (uW b) g (rN b.op),ar h id=ar A id:=λid k=>(by obtain⟨a,f,q⟩:=DT id k;exact n a (Rp a f) id (by grind [bT]));generalize mv i.p0 (uW b) g (rN b.op)=e at c j|-;have r:nv A e=nv h e:=(by unfold nv;grind);rw[r];cases s:nv h e with
 |false=>grind
 |true=>
 rw[s] at c;simp only[bG] at c|-;rw[zK] at c|-;obtain⟨m,p,v⟩:=eO.1 c;have z:m.put=q.put:=(by grind);have w:aq i (λa=>iA A e (B a)) (del e A) b Y=Y m:=by
  rw[<-Mg (g:=λa=>iA h e (g a)) (λa f=>by grind [Vl])];refine Mh p (λa f id k=>?_) (λd u=>?_) (λl C=>?_)
  ·rw[mW,mW,n a f id (Vk id k)]
  ·rw[mW,mW,t d u]
  grind [mW]
 grind
end
section
def qa (D:bU bR) (a:X):ahY:=match D[a]? with
 |some b=>(b.after.toList.filter (aly .any)).map (·.on)
 |none=>[]
def x1 (a:X):cI:=⟨Y (a,.dg bW),[],[],[]⟩
def DB (ic:gS) {d:Type} (G C:ahY) (a:aO) (c:bR) (e:cI->bv d):bv d:=
 jX ic (aT a.g) a.h c λb=>bif rj G C (aT a.g) c b then e b else bo
def iv (ic:gS) (D:bU bR) (G C:X->ahY) (e:X) (b:aO) (d:cI):Prop:=
 ∃a,D[e]?=Y a/\((kN D b a bp/\jX ic (aT b.g) b.h a Y=Y d/\rj (G e) (C e) (aT b.g) a d=bp)\/(kN D b a bq/\∃c,a.dst=Y c/\gx ic.n ic.pin c=bp/\d=x1 c))
def sO (ic:gS) {k:Type} (D:bU bR) (G C:X->ahY):ahY->aO->(aO->bv k)->bv k
 |[],a,b=>b a
 |i::e,a,b=>match D[i]? with
  |none=>bo
  |some f=>match f.guard with
   |none=>DB ic (G i) (C i) a f λj=>sO ic D G C e (j.app a) b
   |some (
    l,tw)=>match(D[l]?).bind (·.dst),f.dst with
    |some d,Y c=>match gt a.g d with
     |.val .bool m=>bif gx ic.n ic.pin c then
      (match m==tw with
      |true=>DB ic (G i) (C i) ⟨(d,.val .bool tw)::a.g,a.h⟩ f λj=>sO ic D G C e (j.app ⟨(d,.val .bool tw)::a.g,a.h⟩) b
      |false=>sO ic D G C e ⟨(c,.dg bW)::(d,.val .bool (!tw))::a.g,a.h⟩ b) else bo
     |.dg (.tuple _)=>bif gx ic.n ic.pin c then sO ic D G C e ⟨(c,.dg bW)::a.g,a.h⟩ b else bo
     |_=>bo
    |_,_=>bo
def n2 (ic:gS) (D:bU bR) (G C:X->ahY):ahY->aO->aO->Prop
 |[],a,b=>kr a b
 |i::d,a,b=>∃c,iv ic D G C i a c/\n2 ic D G C d (c.app a) b
theorem SH {tt:bm (bF×ah)} {id:X} {f:aZ} (b:n6 tt l e a c (.ref id (f::j)) d Y=Y q):q.keep=[(id,f::j),(id,[])]/\q.S=[id]/\ar q.put id=ar e id:=by
 have o:∀{h:ak} {g:aF},ar e id=Y g->ar e a=bo->Y (cI.mk (Y (a,h)) [id] [(id,f::j),(id,[])] [(a,⟨.eL,()⟩),(id,g)])=Y q->q.keep=[(id,f::j),(id,[])]/\q.S=[id]/\ar q.put id=ar e id:=(by intro h g i p k;cases k;have m:¬a=id:=λq=>(by grind);exact⟨bn,bn,by rw[dh,ax m,dh,au bn,i]⟩);unfold n6 at b;split at b
 ·rename_i r t s u n;obtain⟨aq,_,_⟩:=Jf n;cases aq;unfold yD at b;split at b
  case h_2=>cases b
  grind [aje]
 unfold oT at b;split at b
 ·cases b
 rename_i v _;simp only at b;split at b
 case h_2=>cases b
 grind [aje]
theorem Ge {id:X} (e:sb V h=Y (id,j)):∃d f c g b a,h.op=.call {callee:=.builtin .append,args:=d,argTypes:=f}/\d.toList=[c,g]/\j=b::a/\V c=.ref id (b::a):=by unfold sb at e;grind
theorem Mf {ic:gS} {g:bM->ak} {id:X} {d:bU bM} {o:bU bF} {p:bM} {c:aZ} {b:bm aZ} (k:h.op=.call {callee:=.builtin .append,args:=d,argTypes:=o}) (m:d.toList=[N,p]) (s:j=c::b) (r:g N=.ref id (c::b)) (a:aq ic g e h Y=Y q):q.keep=[(id,j),(id,[])]/\q.S=[id]/\ar q.put id=ar e id:=by
 unfold aq at a;cases i:h.dst with
 |none=>grind
 |some f=>
  rw[i] at a;simp only at a;cases l:gx ic.n ic.pin f with
  |false=>grind
  |true=>
  rw[l] at a;simp only[bG,k,m] at a;grind [SH]
theorem Mj {ic:gS} {id:X} (x:sb V h=Y (id,j)) (c:jX ic V e h Y=Y q):q.keep=[(id,j),(id,[])]/\ar q.put id=ar e id:=by
 obtain⟨M,K,k,N,i,f,p,r,C,o⟩:=Ge x;unfold jX at c;split at c
 ·grind [Mf]
 generalize mv ic.p0 (uW h) V (rN h.op)=b at c;cases z:nv e b with
 |false=>grind
 |true=>
 rw[z] at c;simp only[bG] at c;rw[zK] at c;obtain⟨l,a,m⟩:=eO.1 c;cases B:l.keep.all (λs=>!eP s.1 b) with
 |false=>grind
 |true=>
 rw[B] at m;cases m;have d:iA e b (.ref id (i::f))=.ref id (i::f)\/iA e b (.ref id (i::f))=.dead:=by
  rw[HH (by grind)];rcases mu e b (.ref id (i::f)) with⟨s,J,q,_⟩|⟨q,_⟩|⟨q,_⟩
  ·cases q
  ·grind
  grind
 rcases d with d|d
 ·obtain⟨E,_,F⟩:=Mf (g:=λk=>iA e b (V k)) p r C (by show iA e b (V k)=_;rw[o];exact d) a;refine⟨E,?_⟩;show ar l.put id=_;rw[F,mW];have I:id∉b:=λH=>by
   grind [ha,ai5]
  grind
 exfalso;unfold aq at a;cases A:h.dst with
 |none=>grind
 |some v=>
  rw[A] at a;simp only at a;cases D:gx ic.n ic.pin v with
  |false=>grind
  |true=>
  rw[D] at a;simp only[bG,p,r] at a;split at a
  case h_2=>cases a
  rename_i L O t u w G;cases w;cases y:bH t u with
  |false=>grind
  |true=>
  rw[y] at a;simp only[bG,o,d,n6,vj,oT] at a;grind
section
variable {ic:gS} {D:bU bR} {G C:X->ahY}
theorem DA.ok {e:bv (X×ak)} {a:ahU} (c:DA e a=bp):∀d b,e=Y (d,b)->a=Y d:=by
 intro d b g;subst g;cases a with
 |none=>cases c
 |some f=>rw[fv (show bH d f=bp from c)]
theorem Ml {c:bR} {d:cI->bv b} {e:b} (j:DB ic f w i c d=Y e):∃a,jX ic (aT i.g) i.h c Y=Y a/\rj f w (aT i.g) c a=bp/\d a=Y e:=by unfold DB at j;grind [aje,T8]
def mL (b:ahY) (a:ak):Prop:=(∀id∈a.ids,id∈b)\/(∃id,a=.ref id []/\id+500000∈b)\/∃id c,qS a=Y (id,c)/\id<500000/\id+1000000*c∈b/\∀d∈a.ids,d=id\/d∈b
theorem sT.ok (a:sT f d=bp):∃id b,qS d=Y (id,b)/\id<500000/\id+1000000*b∈f/\∀c∈d.ids,c=id\/c∈f:=by
 unfold sT at a;split at a
 case h_2=>cases a
 rename_i id b e;simp only[cC] at a;refine⟨id,b,e,gT a.1,ha.1 a.2.1,λc g=>?_⟩;simp_all [fv,ha,je,gY]
theorem pg.ok (a:pg f d=bp):∃id,d=.ref id []/\id+500000∈f:=by unfold pg at a;grind [ha]
theorem mL.ok {c:ahY} {b:ak} (a:(ph b.ids c||pg c b)=bp):mL c b:=by
 rcases je _ _▸a with a|a
 ·exact .inl (ph.ok a)
 exact .inr (.inl (pg.ok a))
theorem mL.YU (a:(ph d.ids f||(pg f d||sT f d))=bp):mL f d:=by
 simp only[je] at a;rcases a with a|a|a
 ·exact .inl (ph.ok a)
 ·exact .inr (.inl (pg.ok a))
 exact .inr (.inr (sT.ok a))
theorem MD (b:sJ j=Y a):1<=a:=by unfold sJ at b;grind
theorem Tz {id:X} (b:qS d=Y (id,a)):1<=a:=by
 unfold qS at b;split at b
 ·split at b
  ·rename_i c;cases b;exact MD c
  grind
 ·split at b
  ·rename_i c;cases b;exact MD c
  grind
 ·grind
 grind
def KH (e:Op) (c:ahY) (b:ak):Prop:=
 (∃f d g a,e=.extract f d/\b=.fe g/\g[d]?=Y a/\s8 a=bp/\mL c a)\/
 ((∀f d,e≠.extract f d)/\Bx b=bp/\mL c b/\((∀id∈b.ids,id∈c\/∃a,1<=a/\id<500000/\id+1000000*a∈c)\/xm e=bp))
theorem ot.ok {h:Op} {f:ahY} {e:ak} (a:ot h f e=bp):KH h f e:=by
 unfold ot at a;split at a
 ·rename_i d b;split at a
  case h_2=>cases a
  rename_i q;split at a
  case h_2=>cases a
  rename_i c o;rw[cC] at a;exact .inl ⟨d,b,q,c,bn,bn,o,a.1,.ok a.2⟩
 rename_i p;simp only[cC,je] at a;refine .inr ⟨λd b i=>p d b i,a.1,?_⟩;rcases a.2 with a|⟨a,j⟩|a
 ·exact⟨.inl (ph.ok a),.inl λb g=>.inl (ph.ok a b g)⟩
 ·exact⟨.inr (.inl (pg.ok j)),.inr a⟩
 obtain⟨id,c,k,l,m,n⟩:=sT.ok a;refine⟨.inr (.inr ⟨id,c,k,l,m,n⟩),.inl λb g=>?_⟩;grind
theorem rj.ok {i b:ahY} {j:bM->ak} {g:bR} {c:cI} (a:rj i b j g c=bp):(∀d f,c.d=Y (d,f)->g.dst=Y d)/\(∀l∈g.op.operands,KH g.op i (j l))/\(∀id∈c.S,id<500000/\(id∈b/\(id+500000∈b\/k4 c.keep (.ref id [])=bp)\/id+1500000∈b))/\(∀h∈c.put,h.1<500000/\(h.1∈b\/h.1+1500000∈b))/\(∀d f,c.d=Y (d,f)->mL i f)/\(∀e∈b,1000000<=e->∃id k,sb j g=Y (id,k)/\e %1000000=id+500000/\id<500000/\xO k (e/1000000)=bp):=by
 unfold rj at a;simp only[cC] at a;obtain⟨⟨⟨⟨m,t⟩,n⟩,o⟩,u,p⟩:=a;refine⟨DA.ok m,λl y=>?_,λid q=>?_,λh s=>?_,λd f w=>?_,λe r x=>?_⟩
 ·grind [ot.ok,ai5]
 ·have:=gY.1 n id q;simp_all [gT,ha,cC,je]
 ·have:=gY.1 o h s;simp_all [gT,ha,cC,je]
 ·grind [mL.YU]
 have:=gY.1 p e r;rw[je] at this;rcases this with a|a
 ·have:e<1000000:=gT a;omega
 split at a
 case h_2=>cases a
 rename_i id k v;simp only[cC] at a;grind [aiK,Nat.le_of_ble_eq_true]
def qE (d:ahY) (a c:ak):Prop:=(Bx a=bp->mL d a->c=a)/\∀f,a=.fe f->∃g,c=.fe g/\∀(e:X) (b:ak),f[e]?=Y b->s8 b=bp->mL d b->g[e]?=Y b
def qE.refl (a:t=d):qE f d t:=⟨λ_ _=>a,λc b=>⟨c,by rw[a,b],λ_ _ a _ _=>a⟩⟩
theorem qE.ot {a:ahY} {h:Op} {c d:ak} (e:qE a c d) (g:ot h a c=bp):jf.ot h a d=bp:=by
 rcases ot.ok g with⟨r,p,k,l,i,b,f,j,n⟩|⟨i,b,f,j⟩
 ·obtain⟨q,m,o⟩:=e.2 k b;grind [jf.ot]
 rw[e.1 b f];exact g
theorem T9 {ic:gS} {b:bM->ak} {g:bm (X×aF)} {c f:bm ak} (o:h.op=.extract n a) (m:jX ic V e h Y=Y q) (i:V n=.fe c) (j:b n=.fe f) (k:c[a]?=Y d) (l:f[a]?=Y d):jX ic b g h Y=Y q:=by simp_all [kz,g2,DI,aq,mv,uW,rN,jX]
theorem Ub {ic:gS} {a:bM->ak} {d:bm (X×aF)} (b:xm h.op=bp) (f:jX ic V e h Y=Y q) (g:∀c∈h.op.operands,V c=a c):jX ic a d h Y=Y q:=by
 unfold xm at b;split at b
 ·simp_all [kz,g2,aq,mv,uW,rN,jX,bV]
 grind
theorem W6 (b:.tmp a∈h.op.operands):a∈h.looksAt D:=
 r1 _ (List.mem_filterMap.2 ⟨.tmp a,by grind,bn⟩)
theorem W7 {b:bA} (c:h.guard=Y (m,b)) (d:(D[m]?).bind (·.dst)=Y a):a∈h.looksAt D:=
 lq _ (by grind)
theorem Rt {l:aO} {c:bA} (n:∀k∈h.looksAt D,qE f (gt i.g k) (gt l.g k)) (a:kN D i h c):kN D l h c:=by
 unfold kN at*;cases d:h.guard with
 |none=>grind
 |some p=>
  obtain⟨o,r⟩:=p;rw[d] at a;simp only at a|-;cases e:(D[o]?).bind (·.dst) with
  |none=>grind
  |some m=>
   rw[e] at a;simp only at a|-;have j:=n m (W7 d e);split at a
   ·rename_i s b;rw[j.1 (by rw[b];rfl) (by rw[b];exact .inl (by simp[bT])),b];exact a
   ·rename_i q b;rw[j.1 (by rw[b];rfl) (by rw[b];exact .inl (by simp[bT])),b];exact a
   grind
theorem iv.congr {f:aO} (e:iv ic D G C a i q) (m:∀c,D[a]?=Y c->∀o∈c.looksAt D,qE (G a) (gt i.g o) (gt f.g o)) (w:∀c,D[a]?=Y c->∀id,id∈G a\/id∈C a\/c.dst=Y id->ar i.h id=ar f.h id) (c1:∀id j,1<=j->id<500000->id+1000000*j∈G a->ar i.h id=ar f.h id):iv ic D G C a f q:=by
 obtain⟨c,x,e⟩:=e;have m:=m c x;have w:=w c x;refine⟨c,x,e.imp (λ⟨s,t,l⟩=>⟨Rt m s,?_⟩) (λ⟨s,t⟩=>⟨Rt m s,t⟩)⟩;obtain⟨bx,f2,ce,f4,f5,P⟩:=rj.ok l;have n:∀b∈c.op.operands,qE (G a) (aT i.g b) (aT f.g b):=by
  intro b d;cases b with
  |tmp o=>exact m o (W6 d)
  |const ap=>exact .refl (by cases ap<;>rfl)
  |func bs=>exact .refl bn
  |global Q=>exact .refl bn
 constructor
 ·by_cases S:∃b F,c.op=.extract b F
  ·obtain⟨b,F,U⟩:=S;have d:b∈c.op.operands:=(by grind [bV]);rcases f2 b d with⟨J,H,y,j,k,r,z,ci,co⟩|⟨k,_⟩
   ·rw[U] at k;cases k;obtain⟨d0,aw,d1⟩:=(n b d).2 y r;grind [T9]
   grind
  have A:∀b∈c.op.operands,Bx (aT i.g b)=bp/\mL (G a) (aT i.g b)/\((∀id∈(aT i.g b).ids,id∈G a\/∃j,1<=j/\id<500000/\id+1000000*j∈G a)\/xm c.op=bp):=λb d=>by
   rcases f2 b d with⟨J,H,y,j,k,_⟩|⟨_,Q⟩
   ·grind
   omega
  have v:∀b∈c.op.operands,aT i.g b=aT f.g b:=λb d=>((n b d).1 (A b d).1 (A b d).2.1).symm;by_cases c2:xm c.op=bp
  ·grind [Ub]
  have V:∀b∈c.op.operands,∀id∈(aT i.g b).ids,ar i.h id=ar f.h id:=λb d id cv=>(by grind);refine Ua t v V (λO R=>w O (.inr (.inr R))) (λI B=>?_);rcases(f4 I B).2 with e|e
  ·grind
  obtain⟨id,p,K,a3,a4,_⟩:=P _ e aa;have:=(f4 I B).1;obtain⟨av,an,b,a0,am,aw,L,M,_,N⟩:=Ge K;grind [ah4,s2,bT]
 unfold rj at*;have:(c.op.operands.toList.all λb=>ot c.op (G a) (aT f.g b))=bp:=(by simp only[cC] at l;rw[gY];intro b d;exact(n b (by grind)).ot (gY.1 l.1.1.1.2 b d));have cs:∀id p,sb (aT i.g) c=Y (id,p)->sb (aT f.g) c=Y (id,p):=λid p v=>by
  obtain⟨av,an,b,a0,am,aw,L,M,bl,N⟩:=Ge v;have E:b∈c.op.operands:=(by grind [s2]);have ds:aT f.g b=aT i.g b:=by
   rcases f2 b E with⟨J,H,y,j,k,_⟩|⟨_,r,z,_⟩
   ·grind
   exact(n b E).1 r z
  grind [sb]
 have dl:Jh (C a) (aT f.g) c=bp:=by
  simp only[cC] at l;have u:=l.2.2;unfold Jh at u|-;rw[gY] at u|-;intro ad T;have:=u ad T;rw[je] at this|-;refine this.imp (λe=>e) (λe=>?_);split at e
  case h_2=>cases e
  grind
 grind
theorem iv.DC (g:iv ic D G C a i q) {r:bR} (F:D[a]?=Y r):(∀f c,q.d=Y (f,c)->r.dst=Y f)/\(∀id∈q.S,id<500000/\(id∈C a/\(id+500000∈C a\/k4 q.keep (.ref id [])=bp)\/id+1500000∈C a))/\(∀k∈q.put,k.1<500000/\(k.1∈C a\/k.1+1500000∈C a))/\(∀f c,q.d=Y (f,c)->mL (G a) c)/\(∀id,id<500000->id+1500000∈C a->ar (q.app i).h id=ar i.h id)/\(∀id b e,id∈q.S->id<500000->id+1000000*b+500000∈C a->1<=b->qS e=Y (id,b)->(∀p∈e.ids,p=id\/p∉q.S)->kf q.S q.keep e=bp):=by
 obtain⟨L,n,g⟩:=g;rw[F] at n;cases n;rcases g with⟨_,x,g⟩|⟨_,f,A,_,rfl⟩
 ·obtain⟨u,f2,v,f4,f5,w⟩:=rj.ok g;refine⟨u,v,f4,f5,λid B m=>?_,λid b e l B m K z E=>?_⟩
  ·grind [cI.sc,Mj]
  obtain⟨o,M,s,H,I,J⟩:=w _ m aa;obtain rfl:o=id:=aa;obtain⟨y,_⟩:=Mj s x;rw[y];refine aa3 ?_ z E;have:(o+1000000*b+500000)/1000000=b:=aa;grind
 refine⟨λt c j=>?_,by simp[x1],by simp[x1],λt c j=>?_,λid _ _=>rfl,λid b e l=>by cases l⟩
 ·cases j;exact A
 cases j;exact .inl (by simp[bT])
structure yu (f S:ahY) (keep:bm (X×bm aZ)):Prop where
 a:∀id∈S,id∉f
 b:∀id∈S,id+500000∈f->k4 keep (.ref id [])=bp
 c:∀id∈S,∀c v,1<=c->id<500000->id+1000000*c∈f->qS v=Y (id,c)->(∀j∈v.ids,j=id\/j∉S)->kf S keep v=bp
theorem Eb (b:ahY) (c:bm (X×bm aZ)) (a:ak):fc b c a=.dead\/fc b c a=a:=by grind [kf,fc]
theorem H7 (b:s8 (fc f g d)=bp):fc f g d=d:=by
 rcases Eb f g d with a|a
 ·rw[a] at b;cases b
 omega
theorem H6 (a:∀id∈d.ids,id∉f):fc f g d=d:=by grind [ha,aln,Fz,id,aif]
theorem V9 (a:∀id∈d.ids,id∉f):fI f g d=d:=by grind [ha,aln,Kf,id,aif]
theorem Nu (e:mL w d) (i:yu w f g):fc f g d=d:=by
 rcases e with e|⟨id,rfl,e⟩|⟨id,o,k,p,q,l⟩
 ·exact H6 λid s h=>i.a id h (e id s)
 ·by_cases h:id∈f
  ·unfold fc;rw[show kf f g (.ref id [])=k4 g (.ref id []) from rfl,i.b id h e];simp
  grind [H6,ah4,bT]
 by_cases h:id∈f
 ·unfold fc;rw[i.c id h o d (Tz k) p q k (λn t=>(l n t).imp (λe=>e) (λe h=>i.a n h e))];simp
 exact H6 λm r u=>by
  rcases l m r with j|j
  ·grind
  exact i.a m u j
theorem z7 (b:mL w d) (e:yu w f g):fI f g d=d:=by
 cases d with
 |fe k=>
  rcases b with b|⟨id,c,_⟩|⟨id,j,c,_⟩
  ·exact V9 λid h i=>e.a id i (b id h)
  ·cases c
  cases c
 |_=>exact Nu b e
theorem Nt (a:ahY) (d:bm (X×bm aZ)) (b:ahY) (e:bm (X×bm aZ)) (c:ak):fc a d (fc b e c)=fc b e (fc a d c):=by grind [Eb]
theorem Ns (b:∀a,d≠.fe a):fI f g d=fc f g d:=by
 cases d with
 |fe a=>grind
 |_=>rfl
theorem Ea (b:ahY) (d:bm (X×bm aZ)) (c:ahY) (e:bm (X×bm aZ)) (a:ak):fI b d (fI c e a)=fI c e (fI b d a):=by
 by_cases g:∃f,a=.fe f
 ·obtain⟨f,rfl⟩:=g;simp_all [b3,ia,Nt,oJ,fI]
 grind [Eb,Ns,Nt]
theorem Wb (l d:ahY) (e:bm (X×bm aZ)) (b:ak):qE l (fI d e b) b:=by
 by_cases j:∃a,b=.fe a
 ·obtain⟨a,rfl⟩:=j;refine⟨λc _=>?_,λr m=>⟨a,bn,λq o p i _=>?_⟩⟩
  ·simp only[fI] at c|-;have c:∀g∈a.map (fc d e),s8 g=bp:=gY.1 c;congr 1;rw[ia (λg n=>H7 (c _ (eY.2 ⟨g,n,bn⟩))),alp]
  simp only[fI,ak.fe.injEq] at m;grind [H7,amr]
 have i:∀a,b≠.fe a:=λa f=>j ⟨a,f⟩;rw[Ns i];have h:∀a,fc d e b≠.fe a:=λa f=>(by grind [Eb]);refine⟨λc _=>?_,λa f=>absurd f (h a)⟩;have:s8 (fc d e b)=bp:=by
  generalize fc d e b=k at c h;cases k with
  |fe a=>grind
  |_=>exact c
 grind [H7]
theorem Wc (a:ak) (d:yu w f g):qE w a (fI f g a):=by refine⟨λ_ c=>z7 c d,λk b=>?_⟩;subst b;refine⟨_,bn,λj e h _ i=>?_⟩;grind [Nu]
def K9 (e:∀b c,q.d=Y (b,c)->b≠a):gt (q.app i).g a=fI q.S q.keep (gt i.g a):=by
 rw[cI.tX];cases f:q.d with
 |none=>rfl
 |some h=>obtain⟨b,c⟩:=h;simp only;rw[ax (e b c f)]
def WH {c:bm (X×b)} {id:X} (d:∀a∈c,a.1≠id):ar c id=bo:=by
 induction c with
 |nil=>rfl
 |cons a c f=>
  obtain⟨g,h⟩:=a;rw[dh,ax (d (g,h) ac),f (λa e=>d a (by simp[e]))]
def La {id:X} (a:id∉q.S) (b:∀c∈q.put,c.1≠id):ar (q.app i).h id=ar i.h id:=by rw[cI.sc,ax a,WH b];rfl
def sD (b c:ahY):bA:=b.all λa=>!(eP a c)
theorem sD.ok (b:sD f w=bp):∀a∈f,a∉w:=λa c d=>by have:=gY.1 b a c;rw[ha.2 d] at this;cases this
def dl (b:bR):ahY:=match b.dst with
 |some a=>[a]
 |none=>[]
theorem xD (b:h.dst=Y a):a∈dl h:=by unfold dl;rw[b];simp
def sE (b c:ahY):bA:=b.all λa=>b2 1000000 a||!(eP a c)
theorem sE.ok (a:sE f w=bp):∀b∈f,b<1000000->b∉w:=λb c e d=>by
 have:=gY.1 a b c;rw[ha.2 d,je] at this;rcases this with a|a
 ·have:=gT a;omega
 cases a
def rq (e d f b:ahY):bA:=(b.all λa=>cb a 1000000||(!(eP (a %1000000-500000) e)&&(!(eP (a %1000000-500000) d)&&!(eP (a %1000000-500000) f))))&&d.all λc=>cb c 1000000||(!(eP (c %1000000) b)&&(!(eP (c %1000000+1500000) b)||eP (c+500000) b))
theorem rq.ok {d i:ahY} (a:rq d w i f=bp):(∀id,id<500000->id+1500000∈f->id∉d/\id∉w/\id∉i)/\∀id b,1<=b->id<500000->id+1000000*b∈w->id∉f/\(id+1500000∈f->id+1000000*b+500000∈f):=by
 unfold rq at a;rw[cC] at a;have e:∀{g:X} {h:ahY},(!(eP g h))=bp->g∉h:=λ{g h} a c=>(by rw[ha.2 c] at a;cases a);constructor
 ·intro id k c;have:=gY.1 a.1 _ c;rw[je] at this;rcases this with a|a
  ·have:id+1500000<1000000:=gT a;omega
  rw[(aa:(id+1500000) %1000000-500000=id)] at a;simp only[cC] at a;exact⟨e a.1,e a.2.1,e a.2.2⟩
 intro id b l k c;have:=gY.1 a.2 _ c;rw[je] at this;rcases this with a|a
 ·have:id+1000000*b<1000000:=gT a;omega
 rw[(aa:(id+1000000*b) %1000000=id)] at a;simp only[cC,je] at a;refine⟨e a.1,λj=>?_⟩;rcases a.2 with a|a
 ·exact absurd j (e a)
 exact ha.1 a
def uj (D:bU bR) (G C:X->ahY) (a b:X):bA:=
 match D[a]?,D[b]? with
 |some d,Y c=>d.apart D c&&sE (C b) (dl d++(G a++C a))&&sE (C a) (dl c++G b)&&(rq (dl d) (G a) (C a) (C b)&&rq (dl c) (G b) (C b) (C a))
 |_,_=>bq
def iv.xx (b:iv ic D G C a i q) {id:X} (m:500000<=id):ar (q.app i).h id=ar i.h id:=by obtain⟨k,c,j⟩:=b;have b:iv ic D G C a i q:=⟨k,c,j⟩;obtain⟨_,d,e,_⟩:=b.DC c;exact La (λf=>by have:=(d id f).1;omega) (λl g q=>by have:=(e l g).1;omega)
def iv.sW (d:iv ic D G C a i q) {id:X} (e:id∉C a):ar (q.app i).h id=ar i.h id:=by
 obtain⟨o,f,n⟩:=d;have d:iv ic D G C a i q:=⟨o,f,n⟩;obtain⟨_,g,j,_,k,_⟩:=d.DC f;by_cases c:id<500000/\id+1500000∈C a
 ·exact k id c.1 c.2
 refine La (λl=>?_) (λp m q=>?_)
 ·obtain⟨aw,b⟩:=g id l;rcases b with b|b
  ·exact e b.1
  exact c ⟨aw,b⟩
 subst q;obtain⟨aw,b⟩:=j p m;rcases b with b|b
 ·exact e b
 exact c ⟨aw,b⟩
theorem iv.swap {e:cI} (l:uj D G C m a=bp) (o:iv ic D G C m i e) (B:iv ic D G C a (e.app i) q):iv ic D G C a i q/\iv ic D G C m (q.app i) e/\kr (q.app (e.app i)) (e.app (q.app i)):=by
 unfold uj at l;split at l
 case h_2=>cases l
 rename_i a3 a0 ap an;simp only[cC] at l;obtain⟨⟨⟨c2,J⟩,K⟩,d0,d1⟩:=l;have J:=sE.ok J;have K:=sE.ok K;obtain⟨cv,U⟩:=rq.ok d0;obtain⟨c1,V⟩:=rq.ok d1;obtain⟨ce,ci,co⟩:=Oper.apart_spec c2;obtain⟨bs,T,em,eq,ex,bx⟩:=o.DC ap;obtain⟨i1,N,d5,d6,d7,av⟩:=B.DC an;have d9:∀p∈a0.looksAt D,gt (e.app i).g p=fI e.S e.keep (gt i.g p):=λp A=>K9 λj w z y=>ce j (bs j w z) (y▸A);have d8:∀p∈a3.looksAt D,gt (q.app i).g p=fI q.S q.keep (gt i.g p):=λp A=>K9 λj w z y=>co j (i1 j w z) (y▸A);have L:∀j H t I,q.d=Y (j,H)->e.d=Y (t,I)->j≠t:=λj H t I z dl y=>ci t (bs t I dl) (y▸i1 j H z);have E:∀id,id<1000000->id∈G m\/id∈C m\/a3.dst=Y id->id∉C a:=λid h c s=>J id s h (by
  rcases c with c|c|c
  ·simp[c]
  ·simp[c]
  simp[xD c])
 have bl:∀id,id<1000000->id∈G a\/a0.dst=Y id->id∉C m:=λid h c s=>K id s h (by
  rcases c with c|c
  ·simp[c]
  simp[xD c])
 have d4:∀id,id<1000000->id∈C a->id∉C m:=λid h c s=>E id h (.inr (.inl s)) c;have el:yu (G a) e.S e.keep:=by
  refine⟨λid k f=>?_,λid k f=>?_,λid k r R l n f M x=>?_⟩
  ·obtain⟨aw,b⟩:=T id k;rcases b with b|b
   ·exact bl id aa (.inl f) b.1
   exact(c1 id aw b).2.1 f
  ·obtain⟨aw,b⟩:=T id k;rcases b with b|b
   ·exact b.2.resolve_left (bl _ aa (.inl f))
   exact bx id 1 (.ref id []) k aw (by rw[(aa:id+1000000*1+500000=id+1500000)];exact b) (bc _) rfl (λd2 x=>.inl (by simpa[bT] using x))
  obtain⟨_,b⟩:=T id k;obtain⟨a4,Q⟩:=V id r l n f;rcases b with b|b
  ·exact absurd b.1 a4
  exact bx id r R k n (Q b) l M x
 have ek:yu (G m) q.S q.keep:=by
  refine⟨λid k f=>?_,λid k f=>?_,λid k r R l n f M x=>?_⟩
  ·obtain⟨aw,b⟩:=N id k;rcases b with b|b
   ·exact E id aa (.inl f) b.1
   exact(cv id aw b).2.1 f
  ·obtain⟨aw,b⟩:=N id k;rcases b with b|b
   ·exact b.2.resolve_left (E _ aa (.inl f))
   exact av id 1 (.ref id []) k aw (by rw[(aa:id+1000000*1+500000=id+1500000)];exact b) (bc _) rfl (λd2 x=>.inl (by grind [bT]))
  obtain⟨_,b⟩:=N id k;obtain⟨a4,Q⟩:=U id r l n f;rcases b with b|b
  ·grind
  exact av id r R k n (Q b) l M x
 have v:iv ic D G C a i q:=by
  refine B.congr (λO u p A=>?_) (λO u id n=>?_) (λid r l n f=>?_)
  ·grind [Wb]
  ·rw[an] at u;cases u;rcases cO id 500000 with h|h
   ·refine o.sW ?_;rcases n with c|c|c
    ·grind
    ·grind
    grind
   exact o.xx h
  exact o.sW (V id r l n f).1
 have F:iv ic D G C m (q.app i) e:=by
  refine o.congr (λO u p A=>?_) (λO u id n=>?_) (λid r l n f=>?_)
  ·grind [Wc]
  ·rw[ap] at u;cases u;rcases cO id 500000 with h|h
   ·exact(v.sW (E id aa n)).symm
   exact(v.xx h).symm
  exact(v.sW (U id r l n f).1).symm
 refine⟨v,F,?_,λid=>?_⟩
 ·intro p;rw[cI.tX q,cI.tX e (q.app i),cI.tX e i,cI.tX q i];cases ds:e.d with
  |none=>
   cases ad:q.d with
   |none=>grind [Ea]
   |some P=>
    obtain⟨j,w⟩:=P;simp only;split
    ·grind [z7]
    grind [Ea]
  |some d3=>
   obtain⟨t,cs⟩:=d3;cases ad:q.d with
   |none=>
    simp only;split
    ·grind [z7]
    grind [Ea]
   |some P=>
    obtain⟨j,w⟩:=P;have L:j≠t:=L j w t cs ad ds;simp only;by_cases o:j=p
    ·subst o;rw[au bn,ax (Ne.symm L),au bn];grind [z7]
    rw[ax o,ax o];split
    ·grind [z7]
    grind [Ea]
 rcases cO id 500000 with h|h
 ·by_cases s:id∈C a
  ·have am:=d4 id aa s;rw[F.sW am,cI.sc q,cI.sc q,o.sW am]
  rw[B.sW s,cI.sc e,cI.sc e,v.sW s]
 rw[B.xx h,o.xx h,F.xx h,v.xx h]
def iv.seq {c:aO} (b:kr i c) (d:iv ic D G C a i q):iv ic D G C a c q:=
 d.congr (λ_ _ e _=>.refl (b.g e).symm) (λ_ _ id _=>b.h id) (λid _ _ _ _=>b.h id)
def n2.seq:∀{c:ahY} {d e f:aO},kr d e->n2 ic D G C c d f->n2 ic D G C c e f
 |[],_,_,_,a,h=>a.symm.trans h
 |_::_,_,_,_,a,⟨b,g,i⟩=>⟨b,g.seq a,n2.seq (a.app b) i⟩
theorem n2.front {g:X} {h:ahY}:∀{b:ahY} {a d:aO},(∀x∈b,uj D G C x g=bp)->n2 ic D G C (b++g::h) a d->∃c,iv ic D G C g a c/\n2 ic D G C (b++h) (c.app a) d
 |[],a,d,_,⟨c,e,f⟩=>⟨c,e,f⟩
 |x::b,a,d,i,⟨k,e,f⟩=>by obtain⟨j,o,p⟩:=n2.front (λq r=>i q (by grind)) f;obtain⟨l,m,n⟩:=iv.swap (i x ac) e o;exact⟨j,l,k,m,p.seq n⟩
end
end
section
section
variable {ic:gS} {F:bU bR} {iB h1:X->ahY}
theorem zY {D:Type} {y:aO->bv D} {C:D}:∀{w:ahY} {b:aO},sO ic F iB h1 w b y=Y C->∃c,n2 ic F iB h1 w b c/\y c=Y C
 |[],b,a=>⟨b,kr.refl b,a⟩
 |i::w,b,a=>by
  simp only[sO] at a;split at a
  ·cases a
  rename_i o m;split at a
  ·rename_i A;obtain⟨k,s,t,u⟩:=Ml a;obtain⟨c,f,j⟩:=zY u;exact⟨c,⟨k,⟨o,m,.inl ⟨by grind [kN],s,t⟩⟩,f⟩,j⟩
  rename_i I x A;split at a
  case h_2=>cases a
  rename_i r e G z;split at a
  case h_3=>cases a
  case h_2=>
   rename_i K B;cases l:gx ic.n ic.pin e with
   |false=>grind
   |true=>
   rw[l] at a;obtain⟨c,f,j⟩:=zY a;refine⟨c,⟨x1 e,⟨o,m,.inr ⟨?_,e,z,l,bn⟩⟩,f⟩,j⟩;grind [kN]
  rename_i d B;cases l:gx ic.n ic.pin e with
  |false=>grind
  |true=>
  rw[l] at a;simp only[bG] at a;have p:∀q,d=q->kr ⟨(r,.val .bool q)::b.g,b.h⟩ b:=λq v=>⟨λJ=>by
   grind [iQ],λ_=>rfl⟩
  split at a
  ·rename_i v;obtain rfl:d=x:=(by grind);obtain⟨k,s,t,u⟩:=Ml a;obtain⟨c,f,j⟩:=zY u;have E:iv ic F iB h1 i ⟨(r,.val .bool d)::b.g,b.h⟩ k:=by
    refine⟨o,m,.inl ⟨?_,s,t⟩⟩;unfold kN;rw[A];simp only[G,(p d bn).g r,B];simp
   exact⟨c,⟨k,E.seq (p d bn),f.seq ((p d bn).app k)⟩,j⟩
  rename_i v;have H:d=!x:=by cases d<;>cases x<;>first|rfl|cases v
  obtain⟨c,f,j⟩:=zY a;refine⟨c,⟨x1 e,⟨o,m,.inr ⟨?_,e,z,l,bn⟩⟩,f.seq ((p _ H).app (x1 e))⟩,j⟩;grind [kN]
structure lS where
 i:X
 d:ahY
 ar:ahY
 ps:ahY
 iB:ahY
 h1:ahY
def sH:ahY->ahY->bA
 |[],[]=>bp
 |a::c,b::d=>bH a b&&sH c d
 |_,_=>bq
theorem pY:∀{c d:ahY},sH c d=bp->c=d
 |[],[],_=>rfl
 |a::c,e::d,b=>by simp only[sH,cC] at b;rw[fv b.1,pY b.2]
 |[],_::_,b=>by cases b
 |_::_,[],b=>by cases b
def qf (F:bU bR) (iB h1:X->ahY) (a:lS):bA:=match F[a.i]? with
 |some b=>sH (dl b) a.d&&sH (b.looksAt F) a.ar&&sH (qa F a.i) a.ps&&sH (iB a.i) a.iB&&sH (h1 a.i) a.h1
 |none=>bq
def GD (a b:lS):bA:=sD a.d b.ar&&sD a.d b.d&&sD b.d a.ar&&sE b.h1 (a.d++(a.iB++a.h1))&&sE a.h1 (b.d++b.iB)&&(rq a.d a.iB a.h1 b.h1&&rq b.d b.iB b.h1 a.h1)
theorem TJ {j h:lS} (b:qf F iB h1 j=bp) (a:qf F iB h1 h=bp) (c:GD j h=bp):uj F iB h1 j.i h.i=bp:=by
 unfold qf at b a;split at b
 case h_2=>cases b
 rename_i v q;split at a
 case h_2=>cases a
 rename_i u p;simp only[cC] at b a;obtain⟨⟨⟨⟨w,x⟩,D⟩,y⟩,z⟩:=b;obtain⟨⟨⟨⟨i1,r⟩,A⟩,s⟩,t⟩:=a;unfold GD at c;rw[<-pY w,<-pY x,<-pY y,<-pY z,<-pY i1,<-pY r,<-pY s,<-pY t] at c;simp only[cC] at c;obtain⟨⟨⟨⟨⟨e,f⟩,k⟩,l⟩,m⟩,n,o⟩:=c;unfold uj;simp only[q,p,l,m,n,o,akE];have e:=sD.ok e;have f:=sD.ok f;have k:=sD.ok k;unfold Oper.apart;rw[cC];constructor
 ·cases g:v.dst with
  |none=>rfl
  |some d=>
   have B:=e d (xD g);have C:=f d (xD g);simp only[cC,tC];refine⟨?_,?_⟩
   ·grind
   rw[bne_iff_ne];grind [xD]
 cases g:u.dst with
 |none=>rfl
 |some d=>
  simp_all [Bool.not_eq_true,List.contains_iff_mem,tC,xD]
def lA (a b:X):bA:=bH (Nat.land (Nat.shiftRight a b) 1) 1
def F9 (a b:X):X:=alz a (Nat.shiftLeft 1 b)
theorem yH:lA a m=bp↔a.testBit m=bp:=by simp_all [of_decide_eq_true,ah3,fv,alA,Nat.and_one_is_mod,Nat.testBit_eq_decide_div_mod_eq,bH,lA]
theorem Lr {b:X} (c:lA (alz m b) a=bp):lA m a=bp\/lA b a=bp:=by simp_all [ams,yH]
theorem Lq {c:X} (b:lA (F9 m c) a=bp):lA m a=bp\/a=c:=by
 rcases Lr b with b|b
 ·grind
 simp_all [yH,akG,lv,alB,of_decide_eq_true]
theorem BG (b:lA 0 a=bp):False:=by grind [yH]
def yC (a:ah0):ahY->X
 |[]=>0
 |p::b=>alz (F9 ((jf.ar a p).getD 0) p) (yC a b)
theorem K1 {e:ah0}:∀{d:ahY} {b:X},lA (yC e d) b=bp->∃p∈d,b=p\/∃c,jf.ar e p=Y c/\lA c b=bp
 |[],_,a=>(BG a).elim
 |p::d,b,a=>by
  rcases Lr a with a|a
  ·refine⟨p,ac,?_⟩;rcases Lq a with a|a
   ·cases g:jf.ar e p with
    |none=>grind [BG]
    |some c=>grind
   omega
  obtain⟨i,h,f⟩:=K1 a;grind
def BK (c:X):X->bm lS->ah0->bm lS->bA
 |_,_,_,[]=>bp
 |sm,d,b,a::f=>
  a.ps.all (λg=>lA sm g)&&(d.all λe=>lA (yC b a.ps) e.i||GD e a)&&!(lA sm a.i)&&cb a.i c&&BK c (F9 sm a.i) (a::d) ((a.i,yC b a.ps)::b) f
def k2 (a:bm lS):ahY:=a.map (·.i)
def uf (F:bU bR) (iB h1:X->ahY) (a:bm lS):bA:=a.all (qf F iB h1)&&BK F.size 0 [] [] a&&((bI F.size).all λb=>eP b (k2 a))&&b2 a.length F.size
def Be (F:bU bR) (a:X->Prop):Prop:=∀b,a b->∀c∈qa F b,a c
theorem qf.ps {b:lS} (a:qf F iB h1 b=bp):qa F b.i=b.ps:=by
 unfold qf at a;split at a
 case h_2=>cases a
 simp only[cC] at a;grind [pY]
theorem Gy:∀{q j:bm lS} {o:X} {s:ah0},BK F.size o j s q=bp->(∀r∈q,qf F iB h1 r=bp)->(∀r∈j,qf F iB h1 r=bp)->(∀h,lA o h=bp->h∈k2 j)->(∀h∈k2 j,lA o h=bp)->(∀e v,jf.ar s e=Y v->∀b,Be F b->b e->∀a,lA v a=bp->b a)->∀f g p,k2 q=f++g::p->(∀e∈qa F g,e∈k2 j\/e∈f)/\(∀b,Be F b->(∀e∈qa F g,b e)->∀a,(a∈k2 j\/a∈f)->¬b a->uj F iB h1 a g=bp)/\g∉k2 j/\g∉f/\g<F.size
 |[],_,_,_,t,_,_,_,_,M,f,g,p,m=>by cases f<;>cases m
 |r::q,j,o,s,t,z,S,d,J,M,f,g,p,m=>by
  simp only[BK,cC,gY,tC] at t;obtain⟨⟨⟨⟨E,G⟩,x⟩,H⟩,I⟩:=t;have L:=z r ac;have K:=qf.ps L;have x:r.i∉k2 j:=λk=>(by grind);have N:∀b,Be F b->(∀e∈qa F r.i,b e)->∀a,lA (yC s r.ps) a=bp->b a:=(by grind [K1]);cases f with
  |nil=>
   cases m;refine⟨λe l=>.inl (d _ (E e (K▸l))),λb n l a c y=>?_,x,ac,gT H⟩;rcases c with c|c
   ·obtain⟨P,O,rfl⟩:=eY.1 c;have:=G P O;rcases je _ _▸this with d|d
    ·grind
    grind [TJ]
   grind
  |cons Q f=>
   simp only[k2,ie,nW,hL] at m;obtain⟨rfl,m⟩:=m;obtain⟨B,C,w,R,D⟩:=Gy I (λa c=>z a (by grind)) (λa c=>by
    grind) (λh k=>by
    rcases Lq k with k|rfl
    ·exact hY _ (d h k)
    ·exact nb ..) (λh k=>by
    rw[yH];show(o|||(1<<<r.i)).testBit h=bp;rw[ams,je];rcases fV.1 k with rfl|k
    ·grind
    ·left;exact yH.1 (J h k)) (λe v u b n l a c=>by
    rw[dh] at u;split at u
    ·rename_i A;cases u;subst A;exact N b n (n _ l) a c
    grind) f g p m
   refine⟨λe l=>?_,λb n l a c y=>C b n l a ?_ y,λd=>w (hY _ d),λd=>?_,D⟩
   ·rcases B e l with d|d
    ·rcases fV.1 d with rfl|d
     ·grind
     exact .inl d
    grind
   ·rcases c with c|c
    ·exact .inl (hY _ c)
    rcases fV.1 c with rfl|c
    ·exact .inl (nb ..)
    grind
   rcases fV.1 d with rfl|d
   ·exact w (nb ..)
   grind
variable {E:fB} {C:eX}
theorem iv.wp (h:ic.ae E C) (d:iv ic F iB h1 a i q) {b:Act} (g:gJ C i b.tmps v) {next:Act->bD->Prop} (p:∀c j,c.defers=b.defers->gJ C (q.app i) c.tmps j->next c j):wpOp E.P F o a next b v:=by
 obtain⟨w,r,d⟩:=d;obtain⟨k,t,l,e⟩:=id g;unfold wpOp;simp only[r];rcases d with⟨f,m,_⟩|⟨f,u,n,s,rfl⟩
 ·rw[f.ok e,au bn];refine .inl (Mk h m b v g _ _ ?_);grind
 rw[f.ok e,ax ac,n];exact p _ v bn ⟨k,t,l,e.put (gx.ok h s) (.dg bW)⟩
def left (a:ahY) (c:bU bA):ahY:=a.filter λb=>!c.getD b bp
theorem NB {b:bU bA} {c:ahY} (g:left f b=w++a::c) (h:a∉w) (i:a∉c) (j:a<b.size):left f (b.setIfInBounds a bp)=w++c:=by
 have:left f (b.setIfInBounds a bp)=(left f b).filter λd=>!(d==a):=by
  unfold left;rw[Bh];refine py λd _=>?_;by_cases e:a=d
  ·simp_all
  rw[alC bp e];grind
 grind [ajq,List.filter_cons_of_neg]
theorem Jk (c:F[a]?=Y h):m∈qa F a↔∃b∈h.after,aly .any b=bp/\b.on=m:=by grind [qa]
theorem SG (d4:ic.ae E C) {R:bm lS} (dl:f=k2 R) (r:uf F iB h1 R=bp) {t:aO} {ds:bm Deferred} (am:∀d g,d.defers=ds->gJ C t d.tmps g->o .normal d g):∀(q:X) (a:bU bA) (d:Act) (g:bD) (w:aO),a.size=F.size->(left f a).length<=q->Be F (λe=>a.getD e bp=bp/\e<F.size)->n2 ic F iB h1 (left f a) w t->gJ C w d.tmps g->d.defers=ds->wpAny E.P .any F o q a d g:=by
 unfold uf at r;simp only[cC,gY,ig] at r;obtain⟨⟨⟨em,r⟩,an⟩,_⟩:=r;have I:=Gy r em ac (λe d5=>(BG d5).elim) (by simp[k2]) (λH f6 c=>by cases c);rw[<-dl] at I an;have Q:∀i,i<F.size->i∈f:=λi M=>ha.1 (an i M);have fT:∀{a:bU bA} {e:X},a.size=F.size->e<F.size->a.getD e bp=bp->a.getD e bq=bp:=(by grind);have a4:∀{a:bU bA} {i:X},a.size=F.size->i∈alD .any F a->i<F.size/\a.getD i bp=bq/\∃m,F[i]?=Y m/\∀b∈m.after,aly .any b=bp->a.getD b.on bq=bp:=(by grind [Array.getElem?_eq_some_iff,mem_ready]);have first:∀{a:bU bA} {i:X} {K:ahY},a.size=F.size->left f a=i::K->i∈alD .any F a:=by
  intro a i K D N;have u:i∈left f a:=(by grind);have d3:i∈f:=(hq.1 u).1;have eq:a.getD i bp=bq:=(by simpa using(hq.1 u).2);obtain⟨h,n,z⟩:=yk d3;obtain⟨ci,_,_,x,cs⟩:=I h i n z;obtain⟨m,v⟩:∃m,F[i]?=some m:=⟨_,Ba cs⟩;refine mem_ready.2 ⟨eq,m,v,λb k s=>?_⟩;have p:b.on∈qa F i:=(Jk v).2 ⟨b,k,s,bn⟩;have f1:b.on∈h:=by
   rcases ci _ p with c|c
   ·cases c
   omega
  have f3:∀j∈h,a.getD j bp=bp:=by
   intro j G;cases ex:a.getD j bp with
   |true=>rfl
   |false=>
    obtain⟨J,bl,ad⟩:=yk G;have:left f a=left J a++j::(left bl a++left (i::n) a):=(by show aj0 _ f=_;rw[z,ad];simp only[left,px,nY,ex,iY,nW];rfl);rw[N] at this;cases c2:left J a with
    |nil=>grind
    |cons f7 fp=>
     rw[c2] at this;cases this;have:i∈left J a:=(by grind);exact absurd (by rw[ad];exact r1 _ (hq.1 this).1) x
  have a3:b.on<F.size:=(by have:b.on∈f:=(by grind);obtain⟨ft,fz,f0⟩:=yk this;grind);grind
 intro q
 induction q with
 |zero=>
  intro a d g w D d7 L l A B;have d9:left f a=[]:=alE.1 aa;rw[d9] at l;refine⟨?_,am d g B (A.seq l)⟩;cases el:alD .any F a with
  |nil=>rfl
  |cons i fp=>
   obtain⟨y,cv,_⟩:=a4 D (i:=i) (by grind);have:i∈left f a:=hq.2 ⟨Q i y,by grind⟩;grind
 |succ q fn=>
  intro a d g w D d7 L l A B;constructor
  ·intro el;cases N:left f a with
   |nil=>rw[N] at l;exact am d g B (A.seq l)
   |cons i K=>
    grind
  intro i M;obtain⟨y,cv,m,v,T⟩:=a4 D M;have u:i∈left f a:=hq.2 ⟨Q i y,by grind⟩;obtain⟨h,n,z⟩:=yk (Q i y);obtain⟨_,co,_,x,_⟩:=I h i n z;have ap:i∉n:=(by intro u;obtain⟨bs,bx,f2⟩:=yk u;have:=(I (h++i::bs) i bx (by grind)).2.2.2.1;grind);have O:left f a=left h a++i::left n a:=(by grind [left,aj0]);have d1:∀j∈left h a,uj F iB h1 j i=bp:=(by intro j G;obtain⟨fl,f5⟩:=hq.1 G;refine co _ L (λH p=>?_) j (.inr fl) (λG=>by grind);obtain⟨b,k,s,rfl⟩:=(Jk v).1 p;have U:=T b k s;have a3:b.on<a.size:=(by grind);grind);rw[O] at l;obtain⟨b,k,f4⟩:=n2.front d1 l;refine k.wp d4 A (λce fs d2 d0=>fn _ ce fs (b.app w) (by grind) ?_ ?_ ?_ d0 (d2.trans B))
  ·rw[NB O (λc=>x (hq.1 c).1) (λc=>ap (hq.1 c).1) aa];grind
  ·intro e ⟨av,d6⟩ H p;by_cases a0:i=e
   ·subst a0;obtain⟨b,k,s,rfl⟩:=(Jk v).1 p;have U:=T b k s;have a3:b.on<a.size:=by
     grind
    have V:=getD_set_true (i:=i) U;refine⟨?_,aa⟩;have d8:b.on<(a.setIfInBounds i bp).size:=(by grind);have aq:∀S,(a.setIfInBounds i bp).getD b.on S=(a.setIfInBounds i bp)[b.on]:=λS=>(by simp only[Array.getD,d8,aja];rfl);grind
   rw[alC bp a0] at av;obtain⟨V,c1⟩:=L e ⟨av,d6⟩ H p;refine⟨?_,c1⟩;by_cases ek:i=H
   ·grind
   rw[alC bp ek];exact V
  rw[NB O (λc=>x (hq.1 c).1) (λc=>ap (hq.1 c).1) aa];omega
theorem J.draw (A:E.P.follows .mixedOrders=bp) (x:ic.ae E C) {g:aO->bv b} {h:b} {id:X} {a:bm lS} (c:uf F iB h1 a=bp) (e:sO ic F iB h1 (k2 a) i g=Y h) (r:∀j,g j=Y h->z .normal j):J E C (.region id F bp) i z:=by
 obtain⟨d,K,p⟩:=zY e;intro n H f u;refine wp_region_any A ?_;have L:left (k2 a) (alj F.size bq)=k2 a:=(by refine mO.2 λB w=>?_;unfold uf at c;simp only[cC,gY] at c;obtain⟨k,l,q⟩:=yk w;have:=(Gy c.1.1.2 c.1.1.1 ac (λD y=>(BG y).elim) (by simp[k2]) (λQ R e=>by cases e) k B l q).2.2.2.2;simp_all);have O:(k2 a).length<=F.size:=(by simp_all [gT,ff,cC,k2,uf]);refine SG x bn c (t:=d) (ds:=[]) (λI S v s=>⟨d,r d p,s,v⟩) F.size _ n _ i ac (by grind) ?_ (by grind) ?_ u
 ·intro D ⟨M,N⟩;simp_all
 obtain⟨m,G,o,f⟩:=f;exact⟨m,G,o,f.VD (hj.refl H).drew⟩
end
end
section
def jZ:bm aZ->ah->ah
 |[],e=>jJ e
 |.deref::a,.optr d=>.optr (jZ a d)
 |.unst::a,.st d=>.st (jZ a d)
 |.fst::a,.pr b c=>.pr (jZ a b) c
 |.snd::a,.pr b c=>.pr b (jZ a c)
 |_,e=>e
def oe:bm aZ->ah->bA
 |[],e=>rk e
 |.deref::a,.optr b=>oe a b
 |.unst::a,.st b=>oe a b
 |.fst::a,.pr c _=>oe a c
 |.snd::a,.pr _ d=>oe a d
 |_,_=>bq
def uX:∀(a:bm aZ) (e:ah),oe a e=bp->(jZ a e).den=e.den
 |[],e,_=>rn e
 |.deref::a,.optr f,b=>uX a f b
 |.unst::a,.st f,b=>uX a f b
 |.fst::a,.pr c d,b=>by show((jZ a c).den×d.den)=(c.den×d.den);rw[uX a c b]
 |.snd::a,.pr c d,b=>by show(c.den×(jZ a d).den)=(c.den×d.den);rw[uX a d b]
def xe:∀(a:bm aZ) (c:ah),oe a c=bp->(jZ a c).size=c.size
 |[],c,_=>sM c
 |.deref::a,.optr f,b=>rfl
 |.unst::a,.st f,b=>xe a f b
 |.fst::a,.pr d e,b=>by simp only[jZ,aiq,xe a d b]
 |.snd::a,.pr d e,b=>by simp only[jZ,aiq,xe a e b]
def od (b:bm aZ) (a:ah) (c:oe b a=bp) (d:a.den):(jZ b a).den:=cast (uX b a c).symm d
theorem AO {E:eC->X->Prop} {w:bD}:∀{p:bm aZ} {τ:ah} {m:ahS} {x:τ.den} {h:ahY} (c:oe p τ=bp),aR E w τ m x h->h.Nodup->∃f f2:ahY,(∀a,a∈h↔a∈f\/a∈f2)/\(∀a∈f,a∉f2)/\f.Nodup/\∀g:eC->X->Prop,(∀o a,E o a->g o a)->(∀a∈f2,g .bg a)->aR g w (jZ p τ) m (od p τ c x) f
 |[],τ,m,x,h,c,i,e=>⟨[],h,ac,ac,List.nodup_nil,λg j n=>vr j c i n⟩
 |.deref::p,.optr y,m,x,h,c,i,e=>by
  obtain⟨a,L,l,G,r,rfl,H,I,J,K⟩:=i;rw[ko] at e;obtain⟨f,f2,aw,s,t,u⟩:=AO (p:=p) (τ:=y) c K e.2;refine⟨a::f,f2,λb=>by simp only[fV,aw];grind,λb d=>?_,?_,λg j n=>?_⟩
  ·rcases fV.1 d with rfl|d
   ·exactλl=>e.1 ((aw b).2 (.inr l))
   exact s b d
  ·rw[ko];exact⟨λl=>e.1 ((aw a).2 (.inl l)),t⟩
  have F:=xe p y c;exact⟨a,L,f,G,r,bn,by rw[F];exact H,I,by rw[F];exact J,u g j n⟩
 |.unst::p,.st y,m,x,h,c,i,e=>AO (p:=p) (τ:=y) (x:=x) c i e
 |.fst::p,.pr k a,m,x,h,c,i,e=>by
  obtain⟨z,A,rfl,r,B⟩:=i;rw[jR] at e;obtain⟨f,f2,aw,s,t,u⟩:=AO (p:=p) (τ:=k) c r e.1;refine⟨f++A,f2,λb=>by simp only[hX,aw];grind,λb d=>?_,?_,λg j n=>?_⟩
  ·rcases hX.1 d with d|d
   ·exact s b d
   exactλl=>e.2.2 b ((aw b).2 (.inr l)) b d bn
  ·rw[jR];exact⟨t,e.2.1,λb d v D=>e.2.2 b ((aw b).2 (.inl d)) v D⟩
  have q:od (.fst::p) (.pr k a) c x=(od p k c x.1,x.2):=Gu (uX p k c).symm bn _ x;refine⟨f,A,bn,?_,?_⟩
  ·rw[xe p k c,q];exact u g j n
  rw[xe p k c,q];exact B.mono (λo a C=>⟨j o a C,cq _ _⟩) λ_ _=>cq _ _
 |.snd::p,.pr k a,m,x,h,c,i,e=>by
  obtain⟨z,A,rfl,r,B⟩:=i;rw[jR] at e;obtain⟨f,f2,aw,s,t,u⟩:=AO (p:=p) (τ:=a) c B e.2.1;refine⟨z++f,f2,λb=>by simp only[hX,aw];grind,λb d=>?_,?_,λg j n=>?_⟩
  ·rcases hX.1 d with d|d
   ·exactλl=>e.2.2 b d b ((aw b).2 (.inr l)) rfl
   exact s b d
  ·rw[jR];exact⟨e.1,t,λb d v D=>e.2.2 b d v ((aw v).2 (.inl D))⟩
  have q:od (.snd::p) (.pr k a) c x=(x.1,od p a c x.2):=Gu bn (uX p a c).symm _ x;refine⟨z,f,bn,?_,?_⟩
  ·rw[q];exact r.mono (λo a C=>⟨j o a C,cq _ _⟩) λ_ _=>cq _ _
  rw[q];exact u g j n
def pZ (id:X):ak->ak
 |.ref b []=>.ref b []
 |a=>bif a.fo [id] then .dead else a
def HJ (id:X) (b:bm aZ) (a:aF) (d:oe b a.1=bp) (st:aO):aO:=⟨st.g.map λc=>(c.1,pZ id c.2),(id,⟨jZ b a.1,od b a.1 d a.2⟩)::del [id] st.h⟩
def Vn (id:X) (a:ak):(∃b,a=.ref b []/\pZ id a=.ref b [])\/(pZ id a=.dead)\/(pZ id a=a/\a.fo [id]=bq):=by
 have d:∀a:ak,pZ id a=(bif a.fo [id] then .dead else a)->(∃b,a=.ref b []/\pZ id a=.ref b [])\/(pZ id a=.dead)\/(pZ id a=a/\a.fo [id]=bq):=by
  intro a c;cases e:a.fo [id] with
  |true=>rw[e] at c;exact .inr (.inl c)
  |false=>rw[e] at c;exact .inr (.inr ⟨c,bn⟩)
 cases a with
 |ref b f=>
  cases f with
  |nil=>exact .inl ⟨b,bn,bn⟩
  |cons g f=>exact d _ rfl
 |_=>exact d _ rfl
def Vo:∀(a:bm aZ) (c:ah) (b:ahS),a≠[]->oe a c=bp->cX (jZ a c) b=cX c b
 |[],_,_,h,_=>absurd rfl h
 |.deref::a,.optr f,b,_,_=>rfl
 |.unst::a,.st f,b,_,_=>rfl
 |.fst::a,.pr d e,b,_,_=>rfl
 |.snd::a,.pr d e,b,_,_=>rfl
section
variable {C:eX} {st:aO} {A:ahQ} {w:bD}
def cM.Vh (o:cM C st A w O x y) {id:X} (J:j≠[]) (m:ar st.h id=Y P) (c:oe j P.1=bp):gJ C (HJ id j P c st) A w:=by
 obtain⟨R,T,u⟩:=o.tree id P m;obtain⟨v,f2,aw,L,N,Q⟩:=AO c R T;have G:∀n a,bb O C.B n a->bb (λa=>O a\/a∈f2) C.B n a:=by
  intro n a b;cases n
  ·exact .inl b
  exact b.imp .inl (λc=>c)
 have D:=o.eB (S:=[id]) (keep:=[]) (new:=[(id,⟨jZ j P.1,od j P.1 c P.2⟩)]) (rtn:=x) (fpn:=λ_=>v) (w':=w) (I':=λa=>O a\/a∈f2) ⟨bc _,bn,bn,bn,λ_ _ _=>rfl,λ_ _=>.refl _ _,λ_ c=>.inl c,λa b=>b.imp (λc=>c) λb=>⟨(u a ((aw a).2 (.inr b))).2.2.1,.inr ⟨id,ac,P,m,(aw a).2 (.inr b)⟩⟩,(λd U e=>by
    rw[dh] at e;split at e
    ·rename_i f;subst f;cases e;refine⟨.inl ac,Q _ G (λa b=>.inr b),N,λa b=>⟨λl=>?_,(u a ((aw a).2 (.inl b))).2.2.1,.inr ⟨id,ac,P,m,(aw a).2 (.inl b)⟩⟩⟩;rcases l with l|l
     ·exact(u a ((aw a).2 (.inl b))).1 l
     exact L a b l
    cases e),
   (λd ad U V e r z=>by
    rw[dh] at e r;split at e
    ·split at r
     ·omega
     cases r
    cases e),(λf q=>by cases q),(λf q=>by cases q)⟩
 refine⟨_,_,_,{D with tmp:=λi=>?_}⟩;have s:=o.tmp i;have k:=D.tmp i;rw[show gt (aO.mk (aij [id] [] st.g) ([(id,⟨jZ j P.1,od j P.1 c P.2⟩)]++del [id] st.h)).g i=fI [id] [] (gt st.g i) from p2 _ _ _ _] at k;have H:gt (HJ id j P c st).g i=pZ id (gt st.g i):=HR (pZ id) rfl st.g i;rw[H];generalize gt st.g i=F at s k;generalize A.getD i bW=V at s k;rcases Vn id F with⟨d,rfl,f⟩|f|⟨f,K⟩
 ·rw[f];by_cases e:d=id
  ·subst e;cases s with|ref E I=>
   rw[m] at E;cases E;obtain⟨rfl,rfl,rfl⟩:=ait.1 I;have:=cN.ref (M:=bb (λa=>O a\/a∈f2) C.B) (w:=w) (h:=[(d,(⟨jZ j P.1,od j P.1 c P.2⟩:aF))]++del [d] st.h) (rt:=fi [(d,(⟨jZ j P.1,od j P.1 c P.2⟩:aF))] x x) (fp:=fi [(d,(⟨jZ j P.1,od j P.1 c P.2⟩:aF))] (λ_=>v) y) (id:=d) (p:=[]) (t:=⟨jZ j P.1,od j P.1 c P.2⟩) (τ':=jZ j P.1) (loc:=bo) (cs:=x d)
    (by rw[yr,dh,au bn]) (ait.2 ⟨bn,bn,by unfold fi;split<;>rfl⟩)
   rw[Vo j P.1 _ J c] at this;exact this
  have b:bH id d=bq:=by
   cases b:bH id d with
   |false=>rfl
   |true=>exact absurd (fv b).symm e
  have z:(ak.ref d []).fo [id]=bq:=(by simp[aif,bT,eP,b]);rw[Kf z] at k;exact k
 ·rw[f];exact .dead _
 rw[f];rw[Kf K] at k;exact k
end
end
section
section
variable {E:fB} {C:eX} {ic:gS}
def yg.store (g:yg p c) {w:bD} {b o:X} {v:Value} (k:v.cells=#[v]) (h:v.oneCell'=bp) (e:iE w b o (o+1)):(storeVar c ⟨b,o,bo⟩ v).run p w=.ok () (w.setCells b o [v]):=by obtain⟨n,x,m,aw,l,q,r,s,t⟩:=g;have j:=run_storeCells_cells (P:=p) b o [v] 0 w (λd a=>by simpa using(e (o+d) aa (by simp at a;omega)).1) (λd a=>by simpa using(e (o+d) aa (by simp at a;omega)).2) (λu f=>by rw[gd] at f;subst f;exact h);have i:(aiM c).run p w=.ok 1 w:=(by simp[aiM,aiw,aw,l]);simp only[storeVar,k,bY,i,b1];simpa using j
def Ki (a:h.guard=bo) (b:X->bv bA):akC h b=bp:=by unfold akC;rw[a]
end
end
section
def Gs (ic:gS) (q:bU bR) (c:aO):bv aO:=
 match q.toList with
 |[d,e,f]=>match d.guard,e.guard,f.guard with
  |none,bo,bo=>match d.op,d.dst,e.op,e.dst,f.op,f.dst with
   |.makeFunc (.func k) p j,Y b,.alloc i,Y a,.store l (.tmp m) (.tmp o),bo=>match ar ic.tt i with
    |some (.fn _ _)=>bif (bH i l&&(bH a m&&(bH b o&&!(bH a b))))&&(p.isEmpty&&(gx ic.n ic.pin a&&gx ic.n ic.pin b)) then
     Y ⟨(a,.hy (.eA k (j.toList.map (aT c.g))))::(b,.eA k (j.toList.map (aT c.g)))::c.g,c.h⟩ else bo
    |_=>bo
   |_,_,_,_,_,_=>bo
  |_,_,_=>bo
 |_=>bo
section
variable {E:fB} {C:eX} {ic:gS}
theorem J.yL (am:ic.ae E C) {N:bU bR} {id:X} {ap:aO} (f:Gs ic N i=Y ap) (fl:z .normal ap):J E C (.region id N bq) i z:=by
 have an:=λa3=>gx.ok am (d:=a3);have ft:=am.1;unfold Gs at f;split at f
 case h_2=>cases f
 rename_i r s t ii;split at f
 case h_2=>cases f
 rename_i dl ds d0;split at f
 case h_2=>cases f
 rename_i a Q q m k l a4 bl cs f1 cv i8 c1 jp c2;split at f
 case h_2=>cases f
 rename_i i3 lc A;cases hcond:(bH k a4&&(bH l bl&&(bH m cs&&!(bH l m))))&&(Q.isEmpty&&(gx ic.n ic.pin l&&gx ic.n ic.pin m)) with
 |false=>grind
 |true=>
 rw[hcond] at f;simp only[bG,eR] at f;subst f;simp only[cC] at hcond;obtain⟨⟨bs,bx,ce,go⟩,gs,ci,co⟩:=hcond;obtain rfl:=fv bs;obtain rfl:=fv bx;obtain rfl:=fv ce;have ib:¬l=m:=λgt=>(by grind);have U:=an _ ci;have ad:=an _ co;rw[ft] at A;obtain⟨fT,kd,kg,le,f8,f9,_,gc,ge⟩:=E.ok k _ A;have A:yg E.P k:=⟨fT,.nilFunc,_,f8,f9,gc,bn,ge,bn⟩;have lb:ajf.cells.size=1:=rfl;have em:Q=#[]:=(by grind);subst em;obtain rfl:N=#[r,s,t]:=(by grind);rintro e w ⟨G,O,I,K⟩ d7;have gf:(#[r,s,t]:bU bR)[0]?=Y r:=rfl;have gi:(#[r,s,t]:bU bR)[1]?=Y s:=rfl;have gl:(#[r,s,t]:bU bR)[2]?=Y t:=rfl;have f5:(bL e.eval r).run E.P w=.ok (.value (.func (.func a) #[] (q.map e.eval))) w:=(by simp[bL,f1,Instr.makeFunc]);have i0:q.toList.length=(q.map e.eval).size:=ac;have fz:∀(x:X) (y:Value),(q.map e.eval)[x]?=Y y->∃F,q.toList[x]?=Y F/\y=e.eval F:=λx y hw=>(by grind);generalize q.map e.eval=c at*;generalize L:e.put (Y m) (.func (.func a) #[] c)=u;have hs:m<e.tmps.size:=(by rw[K.n];exact ad.1);have hi:l<e.tmps.size:=(by rw[K.n];exact U.1);have fp:u.tmps=e.tmps.setIfInBounds m (.func (.func a) #[] c):=(by rw[<-L];rfl);have d8:u.defers=e.defers:=(by rw[<-L];rfl);have f6:(bL u.eval s).run E.P w=.ok (.value (.pointer (Y ⟨w.heap.size,0,bo⟩))) (w.alloc (.cells ajf.cells k)):=(by simp_all [bL,Instr.alloc,aih,aiw,newVar,aiH]);generalize M:u.put (Y l) (.pointer (Y ⟨w.heap.size,0,bo⟩))=p;have fs:p.tmps=u.tmps.setIfInBounds l (.pointer (Y ⟨w.heap.size,0,bo⟩)):=(by rw[<-M];rfl);have d9:p.defers=u.defers:=(by rw[<-M];rfl);have d6:p.tmps.getD l bW=.pointer (Y ⟨w.heap.size,0,bo⟩):=(by simp_all);have ek:p.tmps.getD m bW=.func (.func a) #[] c:=(by simp_all);have hr:((w.alloc (.cells ajf.cells k)).cell? ⟨w.heap.size,0,bo⟩).isSome=bp:=(by simp_all);have fn:(w.alloc (.cells ajf.cells k)).heap.size=w.heap.size+1:=(by simp_all);have el:iE (w.alloc (.cells ajf.cells k)) w.heap.size 0 (0+1):=als aa;have D:hj w (w.alloc (.cells ajf.cells k)):=aiP w _;generalize i1:w.alloc (.cells ajf.cells k)=j at*;have f7:(bL p.eval t).run E.P j=.ok .skip (j.setCells w.heap.size 0 [.func (.func a) #[] c]):=(by have io:=A.store (w:=j) (b:=w.heap.size) (o:=0) (v:=.func (.func a) #[] c) rfl rfl el;have aq:p.eval (.tmp l)=.pointer (Y ⟨w.heap.size,0,bo⟩):=d6;have hc:p.eval (.tmp m)=.func (.func a) #[] c:=ek;simp_all [bL,Instr.storeAt,ajp]);have f0:∀H:b5->Act->bD->Prop,H .normal p (j.setCells w.heap.size 0 [.func (.func a) #[] c])->wpOps E.P #[r,s,t] H [0,1,2] e w:=(by intro H d3;simp only[wpOps,gf,gi,gl];rw[au (Ki dl _)];refine .inl ?_;unfold aic;rw[f5,amt,cv,L,au (Ki ds _)];refine .inl ?_;rw[f6,amt,c1,M,au (Ki d0 _)];refine .inl ?_;rw[f7,Oper.upon_skip,c2];exact d3);refine wp_region (f0 _ ?_);have ex:(j.setCells w.heap.size 0 [.func (.func a) #[] c]).cell? ⟨w.heap.size,0,bo⟩=Y (.func (.func a) #[] c):=
  ajW w.heap.size [.func (.func a) #[] c] 0 j (λi2 hv=>by
   grind) 0 ac
 have eq:hj w (j.setCells w.heap.size 0 [.func (.func a) #[] c]):=(by obtain⟨f2,f3,f4⟩:=pe w.heap.size [.func (.func a) #[] c] 0 j;exact⟨f2.trans D.os,f3.trans D.tape,f4.trans D.output,by grind [tm],λb d5=>(xX _ _ _ _ _ aa).trans (D.heap b d5)⟩);have is:(j.setCells w.heap.size 0 [.func (.func a) #[] c]).heap.size=w.heap.size+1:=(by rw[tm,fn]);generalize j.setCells w.heap.size 0 [.func (.func a) #[] c]=a0 at*;have T:cM C i e.tmps a0 (λb=>G b\/b=w.heap.size) O I:=by
  have:=K.ext (I':=λb=>G b\/b=w.heap.size) (rtn:=O) (fpn:=I) eq (λ_ d1=>.inl d1) (by
   grind) (new:=[]) .nil
  exact this
 have V:cN (bb (λb=>G b\/b=w.heap.size) C.B) a0 i.h O I (.eA a (q.toList.map (aT i.g))) (.func (.func a) #[] c):=(by refine .eA (by grind) (λx av y R d2=>?_);obtain⟨F,aw,rfl⟩:=fz x y d2;rw[jg,aw] at R;cases R;exact T.aT F);have d4:=(T.put ad V);have S:=d4.put U (av:=.hy (.eA a (q.toList.map (aT i.g)))) (v:=.pointer (Y ⟨w.heap.size,0,bo⟩)) (.hy (.inr bn) ex bn V);rw[<-fp,<-fs] at S;exact⟨_,fl,⟨_,_,_,S⟩,d9.trans (d8.trans d7)⟩
end
end
section
inductive FO where
 |none
 |x (l:ahY) (AZ:ng)
 |vG (l:ahY) (AZ:ng)
inductive FP where
 |r
 |x (id:X) (AZ:ng)
 |vG (id:X) (AZ:ng)
inductive mg where
 |leaf
 |one (a:mg)
 |two (j:FO) (a b:mg)
 |loop (AZ:ng) (m:FP) (a:mg)
 |keep (l:ahY) (a:mg)
 |p0 (F:ahY) (a:mg)
 |fp (id:X) (p:bm aZ) (a:mg)
 |draw (L:bm lS)
 |yL
def DX:bm lS->X->ahY
 |[],_=>[]
 |r::b,a=>bif bH r.i a then r.iB else DX b a
def Es:bm lS->X->ahY
 |[],_=>[]
 |r::b,a=>bif bH r.i a then r.h1 else Es b a
def Lw {A:Type} (id:X) (b:b5->aO->bv A):b5->aO->bv A
 |.exit c,a=>match bH c id with
  |true=>b .normal a
  |false=>b (.exit c) a
 |e,a=>b e a
def V6 {a:Type} (c:aO->bv a):b5->aO->bv a
 |.normal,b=>c b
 |_,_=>bo
def V7 {b A:Type} (d:aO->bv b) (c:b5->aO->bv A):b5->aO->bv (b⊕A)
 |.normal,a=>(d a).map .inl
 |e,a=>(c e a).map .inr
def AW {A:Type} (c:aO->bv A) (b:b5->aO->bv A):b5->aO->bv A
 |.normal,a=>c a
 |e,a=>b e a
def WR {b A:Type} (d:aO->bv b) (c:b5->aO->bv A):b5->aO->bv (b⊕A)
 |.normal,a=>(d a).map .inl
 |e,a=>(c e a).map .inr
def NP {b c:Type} (e:aO->bv b) (id:X) (f:aO->bv c):b5->aO->bv (b⊕c)
 |.normal,a=>(e a).map .inl
 |.exit d,a=>match bH d id with
  |true=>(f a).map .inr
  |false=>bo
 |_,_=>bo
def NQ {f g A:Type} (h:aO->bv f) (id:X) (i:aO->bv g) (c:b5->aO->bv A):b5->aO->bv (f⊕(g⊕A))
 |.normal,a=>(h a).map .inl
 |.exit d,a=>match bH d id with
  |true=>(i a).map λb=>.inr (.inl b)
  |false=>(c (.exit d) a).map λb=>.inr (.inr b)
 |e,a=>(c e a).map λb=>.inr (.inr b)
def hI:gS->mg->Code->aO->(A:Type)->(b5->aO->bv A)->bv A
 |ic,.leaf,d,a,_,b=>match d with
  |.skip=>b .normal a
  |.exit id=>b (.exit id) a
  |.ret=>b .ret a
  |.region _ l bq=>k1 ic l (bI l.size) a (b .normal)
  |_=>bo
 |ic,.one e,d,a,A,b=>match d with
  |.block id j=>hI ic e j a A (Lw id b)
  |_=>bo
 |ic,.two w e q,d,a,A,b=>match d with
  |.seq j p=>match w with
   |.none=>hI ic e j a A (AW (λf=>hI ic q p f A b) b)
   |.x k c=>match sP a.g k with
    |some i=>(hI {ic with pin:=k++ic.pin,kg:=i++ic.kg} e j a c.den (V6 (proj c))).bind λm=>hI ic q p (uN {ic with pin:=k++ic.pin,kg:=i++ic.kg} c m) A b
    |none=>bo
   |.vG k c=>match sP a.g k with
    |some i=>(hI {ic with pin:=k++ic.pin,kg:=i++ic.kg} e j a (c.den⊕A) (V7 (proj c) b)).bind λ
     |.inl m=>hI ic q p (uN {ic with pin:=k++ic.pin,kg:=i++ic.kg} c m) A b
     |.inr i=>Y i
    |none=>bo
  |.cond t j p=>match aT a.g t with
   |.val .bool z=>match z with
    |true=>hI ic e j a A b
    |false=>hI ic q p a A b
   |_=>bo
  |_=>bo
 |ic,.loop c y e,d,a,A,b=>match d with
  |.loop j=>(proj c a).bind λu=>match y with
   |.r=>(loop (λf=>hI ic e j (uN ic c f) (c.den⊕A) (WR (proj c) b)) u).bind Y
   |.x id n=>(loop (λf=>hI ic e j (uN ic c f) (c.den⊕n.den) (NP (proj c) id (proj n))) u).bind λm=>b (.exit id) (uN ic n m)
   |.vG id n=>(loop (λf=>hI ic e j (uN ic c f) (c.den⊕(n.den⊕A)) (NQ (proj c) id (proj n) b)) u).bind λ
    |.inl m=>b (.exit id) (uN ic n m)
    |.inr i=>Y i
  |_=>bo
 |ic,.draw o,d,a,_,b=>match d with
  |.region _ l bp=>bif uf l (DX o) (Es o) o then sO ic l (DX o) (Es o) (k2 o) a (b .normal) else bo
  |_=>bo
 |ic,.yL,d,a,_,b=>match d with
  |.region _ l bq=>match Gs ic l a with
   |some f=>b .normal f
   |none=>bo
  |_=>bo
 |ic,.p0 v e,d,a,A,b=>bif nv a.h v then hI ic e d (sL v a) A b else bo
 |ic,.fp id s e,d,a,A,b=>match ar a.h id,s with
  |some t,f::s=>if h:oe (f::s) t.1=bp then hI ic e d (HJ id (f::s) t h a) A b else bo
  |_,_=>bo
 |ic,.keep k e,d,a,A,b=>match sP a.g k with
  |some i=>hI {ic with pin:=k++ic.pin,kg:=i++ic.kg} e d a A b
  |none=>bo
section
variable {E:fB} {C:eX} {ic:gS} {A:Type}
theorem J.post (s:pu C T) {e:Code} (k:J E C e i (λf c=>z f c\/∃(d a:aO),z f d/\d=⟨T++a.g,a.h⟩/\oW a.g c/\oX a.h c/\mw a.g a.h=bp)):J E C e i z:=
 λj t q r=>wp_mono (k j t q r) (λ_ _ _ ⟨c,b,o,p⟩=>by
  rcases b with b|⟨d,a,b,rfl,l,m,n⟩
  ·grind
  exact⟨_,b,(o.yQ l m n).kg s,p⟩)
theorem l8:∀{am:mg} {C:eX} {ic:gS} {m:Code} {j:aO} {A:Type} {k:b5->aO->bv A} {r:A} {l:b5->aO->Prop},ic.ae E C->hI ic am m j A k=Y r->(∀e i,k e i=Y r->l e i)->J E C m j l
 |.leaf,C,ic,m,j,A,k,r,l,b,a,d=>by
  simp only[hI] at a;split at a
  ·grind [J.skip]
  ·grind [J.exit]
  ·grind [J.ret]
  ·grind [J.region,VQ]
  grind
 |.one q,C,ic,m,j,A,k,r,l,b,a,d=>by
  simp only[hI] at a;split at a
  ·refine J.block (l8 b a ?_);intro e i c;cases e with
   |exit M=>
    grind [Gq,Lw]
   |_=>exact d _ _ c
  grind
 |.two M q cv,C,ic,m,j,A,k,r,l,b,a,d=>by
  simp only[hI] at a;split at a
  ·rename_i x cs;refine J.seq ?_;split at a
   ·refine l8 b a ?_;intro e i c;cases e with
    |normal=>exact l8 b c d
    |_=>exact d _ _ c
   ·rename_i D F;split at a
    case h_2=>cases a
    rename_i Q L;obtain⟨n,B,a⟩:=eO.1 a;refine J.keep b.2.2.2.2 L (λS s t o u v=>J.post o (l8 (ic:={ic with pin:=D++ic.pin,kg:=Q++ic.kg}) ⟨b.1,b.2.1.trans s.symm,by rw[t,<-b.2.2.1],⟨b.2.2.2.1.1,u _ b.2.2.2.1.2.1,b.2.2.2.1.2.2.1,v b.2.2.2.1.2.2.2.1,b.2.2.2.1.2.2.2.2⟩,o⟩ B ?_));intro e i c;cases e with
    |normal=>exact .inr ⟨_,_,l8 b a d,bn,te c⟩
    |_=>cases c
   rename_i D F;split at a
   case h_2=>cases a
   rename_i Q L;obtain⟨n,B,a⟩:=eO.1 a;refine J.keep b.2.2.2.2 L (λS s t o u v=>J.post o (l8 (ic:={ic with pin:=D++ic.pin,kg:=Q++ic.kg}) ⟨b.1,b.2.1.trans s.symm,by rw[t,<-b.2.2.1],⟨b.2.2.2.1.1,u _ b.2.2.2.1.2.1,b.2.2.2.1.2.2.1,v b.2.2.2.1.2.2.2.1,b.2.2.2.1.2.2.2.2⟩,o⟩ B ?_));intro e i c;cases e with
   |normal=>
    obtain⟨bx,g,f⟩:=fD.1 c;cases f;exact .inr ⟨_,_,l8 b a d,bn,te g⟩
   |_=>
    obtain⟨bx,g,f⟩:=fD.1 c;cases f;cases a;exact .inl (d _ _ g)
  ·rename_i ci x cs;split at a
   ·rename_i c2 a3;refine J.cond a3 (λe=>?_) (λe=>?_)
    ·subst e;exact l8 b a d
    subst e;exact l8 b a d
   grind
  grind
 |.loop F a4 q,C,ic,m,j,A,k,r,l,b,a,d=>by
  simp only[hI] at a;split at a
  case h_2=>cases a
  rename_i x;obtain⟨c1,ap,a⟩:=eO.1 a;obtain⟨N,O,P⟩:=te ap;refine J.post b.2.2.2.2 ?_;cases a4 with
  |r=>
   refine J.loop (kY F) a N O P ?_;intro i T y z;refine J.kg b.2.2.2.2 (l8 b y ?_);intro e U c;cases e with
   |normal=>
    obtain⟨n,g,f⟩:=fD.1 c;grind [te]
   |_=>
    obtain⟨n,g,f⟩:=fD.1 c;cases f;cases z;exact⟨(λa=>by cases a),.inl (d _ _ g)⟩
  |x id co=>
   refine J.loop (kY F) a N O P ?_;intro i T y z;refine J.kg b.2.2.2.2 (l8 b y ?_);intro e U c;cases e with
   |normal=>
    obtain⟨n,g,f⟩:=fD.1 c;grind [te]
   |exit M=>
    simp only[NP] at c;split at c
    ·rename_i K;obtain rfl:=fv K;obtain⟨n,g,f⟩:=fD.1 c;cases f;exact⟨(λa=>by cases a),.inr ⟨_,_,d _ _ z,bn,te g⟩⟩
    grind
   |_=>cases c
  |vG id co=>
   refine J.loop (kY F) a N O P ?_;intro i T y z;refine J.kg b.2.2.2.2 (l8 b y ?_);intro e U c;cases e with
   |normal=>
    obtain⟨n,g,f⟩:=fD.1 c;grind [te]
   |exit M=>
    simp only[NQ] at c;split at c
    ·rename_i K;obtain rfl:=fv K;obtain⟨n,g,f⟩:=fD.1 c;cases f;exact⟨(λa=>by cases a),.inr ⟨_,_,d _ _ z,bn,te g⟩⟩
    grind [amr]
   |_=>
    obtain⟨n,g,f⟩:=fD.1 c;grind
 |.draw G,C,ic,m,j,A,k,r,l,b,a,d=>by
  simp only[hI] at a;split at a
  case h_2=>cases a
  rename_i id bl;cases w:uf bl (DX G) (Es G) G with
  |false=>grind
  |true=>
  rw[w] at a;exact J.draw E.mix b w a (λi c=>d _ i c)
 |.yL,C,ic,m,j,A,k,r,l,b,a,d=>by simp only[hI] at a;grind [J.yL]
 |.p0 V q,C,ic,m,j,A,k,r,l,b,a,d=>by
  simp only[hI] at a;cases w:nv j.h V with
  |false=>grind
  |true=>
  rw[w] at a;intro H R p I;obtain⟨ad,ce,an,p⟩:=p;exact l8 b a d H R (p.freeze (nv.ok w)) I
 |.fp id bs q,C,ic,m,j,A,k,r,l,b,a,d=>by
  simp only[hI] at a;split at a
  case h_2=>cases a
  rename_i ci i bs a0;split at a
  case isFalse=>cases a
  rename_i av;intro H R p I;obtain⟨ad,ce,an,p⟩:=p;exact l8 b a d H R (p.Vh ac a0 av) I
 |.keep D q,C,ic,m,j,A,k,r,l,b,a,d=>by
  simp only[hI] at a;split at a
  case h_2=>cases a
  rename_i n B;refine J.keep b.2.2.2.2 B ?_;intro S s t o u v;exact l8 (ic:={ic with pin:=D++ic.pin,kg:=n++ic.kg}) ⟨b.1,b.2.1.trans s.symm,by rw[t,<-b.2.2.1],⟨b.2.2.2.1.1,u _ b.2.2.2.1.2.1,b.2.2.2.1.2.2.1,v b.2.2.2.1.2.2.2.1,b.2.2.2.1.2.2.2.2⟩,o⟩ a d
end
end
end Go.jf
end
