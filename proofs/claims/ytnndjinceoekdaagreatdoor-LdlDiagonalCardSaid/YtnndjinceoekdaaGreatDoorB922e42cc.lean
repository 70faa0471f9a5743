/-
  Parts of the proof: Fw38, Fw22, Fw23, Fw26, Fw27, Fw28, Fw34, Fw35, Fw37, Fw42, Fw45, Fw24, Fw29, Fw31, Fw32, Fw33, Fw48, Fw39, Fw49, Fw30: the framework (Fw), pure forms (Dn), plain laws (Pl, Th), calls of functions (Ok).
-/
import Derived.Laws.StructEq
import Derived.Test.YtnndjinceoekdaaGreatDoorBc685c7ee

set_option linter.all false
set_option maxHeartbeats 1000000
open _root_ renaming Nat->X,List->bm,Array->bU,Option->bv,rfl->bn,False->b5,and_true->b8,Unit->bt,Bool->bA,cond_true->bG,Int->Z,if_true->cg,cond_false->bO,dif_pos->aip,congrArg->b3,true_and->aiD,of_decide_eq_true->aiP,decide_eq_true->ahg
open Go renaming TypeId->bF,Oper->bQ,Operand->bM,Exit->b4,World->bD,Program->b0,execOp->bL,resolve->ahU,ResultVar->ahj,undef->bW,Code->cr,IntKind->cx,Field->ahC,sizeOf->ah1,zeroValue->ahu,typeInfo->ahL,run_underlying->b7,newRow->ahV,builtin->aib,MapEntry->cm,asIntOf->ail,binOp->ahq,eqGuard->aia,getD_set_ne->akU
open Bool renaming true->bp,false->bq,true_and->ajd,and_true->ajY,false_and->akH
open Option renaming some->Y,none->bo,isSome_none->akw,isSome_some->ajN,bind->bB,bind_eq_some_iff->ait,map_eq_some_iff->alO
open Option.some renaming inj->ah0,injEq->ais
open Go.jm.c5 renaming refl->cp,of_heap->akF
open Go.jm.aX renaming here->aiL,gz->ahI
open Go.jm renaming kill->ahw,run_getObj_map->aiN
open Go.Sem renaming run_bind->bY,run_pure->cy
open Go.Result renaming andThen_ok->b1,ok->alN
open Go.Oper renaming wp->ahp,upon_value->alQ
open List renaming mem_flatten->aiC,mem_of_getElem?->aht,flatten_cons->air,all_nil->akE,all_eq_true->aij,replicate->bJ,any_eq_false->akG,map_congr_left->ahv,map_id'->akI,length->ahn,mem_singleton->ahk,drop_drop->ai1,range->bH,length_append->ahO,length_take->aho,length_drop->akM,map_toArray->ajQ,map_nil->aiq,getElem?_take->ajF,getElem_mem->b6,getElem?_eq_getElem->bR,drop_eq_getElem_cons->ai4,getElem?_eq_some_iff->ahT,getElem?_inj->ajO,mem_append_left->alM,mem_append_right->ajV,mem_of_find?_eq_some->akP,append_eq_nil_iff->akr,filter_eq_self->ain,filter->ajg,length_eq_zero_iff->akW
open Pure renaming pure->aim
open Array renaming mapM_eq_mapM_toList->aku,replicate->akD,getD_eq_getD_getElem?->akC,map->ajK,mem_append_right->ahW
open Go.Value.slice renaming injEq->ahm
open List.Perm renaming append_left->ajX
open Nat renaming beq->bI,eq_of_beq_eq_true->ahZ,blt->ca,ble->b2,lt_irrefl->aje,mul_one->aiM,beq_refl->ai9,lor->akR,shiftRight_eq_div_pow->akS,testBit_or->alP,shiftLeft_eq->aj0,testBit_two_pow->akT
open Go.jm.aj renaming ids->bT,og->aic,fm->ahs
open BitVec renaming ofInt->ch
open Int renaming toNat_of_nonneg->alK
open Go.World renaming cell?->aio,frozen?_setCells->akB,cell?_setCells_in->ajc,cell?_setCells_out->ajU
open Go.jm.a9 renaming size->akJ
open Go.jm.ai renaming size->ahE
open Go.jm.e0 renaming eval->ah3
open Go.jm.hn renaming alloc->ah4
open Go.Instr renaming box->ajJ,mapEntry->akN,mapUpdate->ah2,keyThatStays->aiG,sameBits->akx,entryStore->alL,sureAddr->aiE
open Go.jm.fq renaming alloc->akK
open Go.jm.iJ renaming alloc->akL
open Go.jm.aS renaming pure->aid
open Go.Value renaming map->aiH,int->ahr,nilFunc->aiu
open Go.MapEntry renaming mk->ajC
open Go.Result.ok renaming injEq->akO
open Go.Op renaming equalIn->aik,equal->ai2,maxDepth->ai3,eqFields->ajZ,operands->bV
open Go.jm.Yields renaming wp->ajf
open Go.Addr renaming add_lit->ah9
open Go.Addr.mk renaming injEq->ahB
open Go.jm.il renaming op->aiO
open Go.Call renaming operands->ahQ
open Go.Region renaming binds->akQ,ready->akV,wanted->ajW
noncomputable section
namespace Go.jm
variable{a m:X}{b:Type}{c r:bF}{d t:aj}{e:bm (X×aD)}{f w:ahb}{g:bm (X×bm aZ)}{h:bQ}{i:aM}{j:bm aZ}{k Q:ai}{l:bm (X×ai)}{n N:bM}{o:b4->Act->bD->Prop}{p:b0}{s:bU (X×bM)}{u:aM->Prop}{v:bD}{x:X->ag5}{y:X->ahb}{z:b4->aM->Prop}{O:X->Prop}{P:aD}{R:ag5}{S:Value}{T:bm (X×aj)}{U:eD->X->Prop}{V:bM->aj}
section
def tj:bm aj->ag8->bv (X×bm aZ)
 |.ref id (c::b)::_,bp::_=>Y (id,c::b)
 |_::as,_::a=>tj as a
 |_,_=>bo
def qn (id:X) (a:aj):aj:=bif a.fm [id] then .dead else a
def mH (id:X):bm aj->ag8->bm aj
 |.ref _ (_::_)::as,bp::_=>.ref id []::as.map (qn id)
 |a::as,_::b=>qn id a::mH id as b
 |as,_=>as.map (qn id)
def kO {a:Type} (c:X->a) (d:X) (e:a):X->a:=λb=>if b=d then e else c b
theorem nQ {d:X->b} {c:b}:kO d a c a=c:=by simp[kO]
theorem k8 {c:X->b} {e:b} (d:a≠m):kO c m e a=c a:=by simp[kO,d]
section
variable {E:fy} {C:eZ} {st:aM} {A:ag3} {w w':bD} {I I':X->Prop} {rt:X->ag5} {fp:X->ahb}
theorem sU {id:X} (a:X):aq ((id,P)::del [id] e) a=if id=a then Y P else aq e a:=by
 rw[dg];split
 ·rfl
 rename_i b;rw[mZ,aw (by grind)]
theorem cM.split (e:cM C st A w I rt fp) {id:X} (n:aq st.h id=Y P) {j:k.den} {z:ahb} (E:aS (bf I C.B) w k R j f) (v:(fp id).Perm (f++z)):cM C ⟨[],(id,⟨k,j⟩)::del [id] st.h⟩ A w I (kO rt id R) (kO fp id f):=by
 obtain⟨_,F,G⟩:=e.tree id P n;have r:∀c∈f,c∈fp id:=λc d=>v.mem_iff.2 (by grind);have l:∀a b,aq ((id,(⟨k,j⟩:aD))::del [id] st.h) a=Y b->(a=id/\b=⟨k,j⟩)\/(a≠id/\aq st.h a=Y b):=λa b q=>(by grind [ah0,sU]);refine{e with tree:=?_,dis:=?_,tmp:=λa=>.dead _}
 ·intro a b q;rcases l a b q with⟨rfl,rfl⟩|⟨g,i⟩
  ·grind [List.nodup_append,nQ]
  rw[k8 g,k8 g];exact e.tree a b i
 intro x y b D t u m c d;rcases l x b t with⟨rfl,rfl⟩|⟨g,i⟩<;>rcases l y D u with⟨rfl,rfl⟩|⟨o,p⟩
 ·omega
 ·rw[nQ] at d;rw[k8 o];exact e.dis _ _ _ _ n p m c (r c d)
 ·rw[k8 g] at d;rw[nQ];exactλs=>e.dis _ _ _ _ i n m c d (r c s)
 rw[k8 g] at d;rw[k8 o];exact e.dis _ _ _ _ i p m c d
def cP.qn (l:cM C st A w I rt fp) {id:X} {q:aD} {i:ag5} {j:ahb} {a:aj} {f:Value} (k:cP (bf I C.B) w st.h rt fp a f):cP (bf I C.B) w ((id,q)::del [id] st.h) (kO rt id i) (kO fp id j) (qn id a) f:=by
 unfold jm.qn;cases o:a.fm [id] with
 |true=>exact .dead _
 |false=>
  refine k.s2 (λr g n=>⟨n,cp _ _⟩) (λd m p e=>?_);have c:d≠id:=λb=>J8 o d m (by simp[b]);refine⟨?_,k8 c,k8 c,(l.tree d p e).1,λg _=>cp _ _⟩;rw[sU,aw (λb=>c b.symm)];exact e
theorem Sw (p:cM C st A w I rt fp) {id:X} (F:aq st.h id=Y P) {y:k.den} {u:Loc} {f:ahb} {r:aZ} (D:aX w P.1 bo (rt id) (r::j) k u R):∀{d:bm aj} {c:ag8} {a:ag5},iB (cP (bf I C.B) w st.h rt fp) d a->tj d c=Y (id,r::j)->iB (cP (bf I C.B) w ((id,⟨k,y⟩)::del [id] st.h) (kO rt id R) (kO fp id f)) (mH id d c) a:=by
 have G:∀{d:bm aj} {a:ag5},iB (cP (bf I C.B) w st.h rt fp) d a->iB (cP (bf I C.B) w ((id,⟨k,y⟩)::del [id] st.h) (kO rt id R) (kO fp id f)) (d.map (jm.qn id)) a:=by
  intro d
  induction d with
  |nil=>intro a b;cases a with|nil=>trivial|cons=>exact b.elim
  |cons e n o=>intro a b;cases a with|nil=>exact b.elim|cons H a=>exact⟨b.1.qn p,o b.2⟩
 intro d
 induction d with
 |nil=>intro c a _ b;cases c<;>cases b
 |cons e n o=>
  intro c a b i;cases a with
  |nil=>exact b.elim
  |cons H a=>
  cases c with
  |nil=>cases e<;>first|(cases i;done)|(rename_i m g;cases g<;>cases i)
  |cons l c=>
   by_cases z:∃m s g,e=.ref m (s::g)/\l=bp
   ·obtain⟨m,s,g,rfl,rfl⟩:=z;simp only[tj,eU,im,hP] at i;obtain⟨rfl,rfl,rfl⟩:=i;have x:=b.1;cases x with|ref q E=>
    rw[F] at q;cases q;obtain⟨rfl,rfl,rfl⟩:=E.lu D;refine⟨.ref (t:=⟨_,y⟩) (loc:=bo) (by rw[sU,au bn]) ?_,G b.2⟩;rw[nQ];exact aiL
   have ao:tj (e::n) (l::c)=tj n c:=by cases e<;>first|rfl|(rename_i m g;cases g<;>cases l<;>first|rfl|grind)
   have v:mH id (e::n) (l::c)=jm.qn id e::mH id n c:=by cases e<;>first|rfl|(rename_i m g;cases g<;>cases l<;>first|rfl|grind)
   rw[ao] at i;rw[v];exact⟨b.1.qn p,o b.2 i⟩
theorem nk.aa0 (J:cM C st A w I rt fp) {id:X} (z:aq st.h id=Y P) {x:k.den} (eq:eN P.1 P.2 j k x) {av:Loc} (co:aX w P.1 bo (rt id) j k av R):∃p u,aS (bf I C.B) w k R x p/\(fp id).Perm (p++u)/\∀{w':bD} {I':X->Prop} {s:ahb} {K:bm (X×bm aZ)} {D:bm (X×aD)} {N:X->ag5} {E:X->ahb} {O:k.den} {t:P.1.den},nk C ⟨[],(id,⟨k,x⟩)::del [id] st.h⟩ w w' I I' (kO rt id R) (kO fp id p) s K D N E->id∈s->aq D id=Y ⟨k,O⟩->(id,[])∈K->(∀m∈K,m.2=[])->e9 P.1 P.2 j k O t->∃d0 d6,nk C st w w' I I' rt fp s ((id,j)::K) ((id,⟨P.1,t⟩)::D) d0 d6/\∀l,l≠id->d0 l=N l:=by
 obtain⟨f3,ds,f4⟩:=J.tree id P z;obtain⟨hw,gc,p,u,d7,d8,d9,G,gi,ek,el⟩:=zN j (loc:=bo) f3 (λ_ _ b=>by cases b) ds (λ_ _ b=>by cases b) (J.notM z) eq;obtain⟨_,rfl,rfl⟩:=co.lu d7;refine⟨p,u,d8,G,λ{w' I' s K D N E O t} f bs V q fl cs=>?_⟩;have hr:∀a∈p,a∈fp id:=λa c=>G.mem_iff.2 (by grind);have gs:=jY.1 (G.nodup_iff.1 ds);have M:∀a,(∃d∈s,∃e,aq ((id,(⟨k,x⟩:aD))::del [id] st.h) d=Y e/\a∈kO fp id p d)->∃d∈s,∃e,aq st.h d=Y e/\a∈fp d/\(d=id->a∈p):=by
  rintro a ⟨d,o,e,g,c⟩;by_cases m:d=id
  ·grind [nQ]
  rw[sU,aw (λd5=>m d5.symm)] at g;grind [k8]
 have am:∀a∈u,a<w.heap.size/\¬∃d∈s,∃e,aq ((id,(⟨k,x⟩:aD))::del [id] st.h) d=Y e/\a∈kO fp id p d:=λa c=>by
  have L:a∈fp id:=G.mem_iff.2 (by grind);refine⟨(f4 a L).2.2.1,λb=>?_⟩;obtain⟨d,_,e,g,n,H⟩:=M a b;by_cases m:d=id
  ·grind
  exact J.dis d id e P g z m a n L
 have S:∀a∈u,w'.heap[a]?=w.heap[a]?:=λa c=>f.heap a (am a c).1 (λd o e g b=>(am a c).2 ⟨d,o,e,g,b⟩);have gl:∀F a,bf I C.B F a->c5 w w' a:=λF a U=>.of_heap (f.heap a (J.ib a (m0 U)) (λd o e g b=>by
  obtain⟨d,_,e,g,n,_⟩:=M a ⟨d,o,e,g,b⟩;exact J.notM g a n F U))
 obtain⟨_,an,ic,f2⟩:=f.tree id _ V;obtain⟨v,hs,_,cv,_⟩:=f.keep _ q ⟨k,x⟩ (by rw[sU,au bn]);simp only[nQ] at cv;rw[cv] at an;have d4:∀a,c5 w w' a->rP w w' av k.size a:=λa b=>⟨λr _=>(b.1 r).1,λr=>(b.1 r).2,λr=>by rw[(b.1 r).1],b.2⟩;obtain⟨ge,a3,fT,_,f1,_,c1,_,f0⟩:=ek w' (bf I' C.B) R O (E id) t (λF a c=>by cases F;exact f.i a c;exact c.imp (f.i a) (λb=>b)) (by
   rintro a (⟨F,U⟩|c|⟨c2,hc⟩)
   ·grind
   ·exact d4 a (.of_heap (S a c))
   grind) an (λ_ _=>rfl)
  (λa c2 fn=>by
   have c:a∈u:=(by grind);exact(d9 a c2 fn).1.sm (.of_heap (S a c))) cs
 obtain rfl:=f1 bn (.inr bn);have Q:∀a∈a3,a∈E id\/a∈u:=λa c=>h8.1 (c1.mem_iff.1 c);have gt:∀l e,aq D l=Y e->∀a∈E l,a∉u:=λl e q a c hi=>by
  rcases((f.tree l e q).2.2.2 a c).2.2 with b|b
  ·grind
  grind
 have ad:∀l v,aq ((id,(⟨P.1,t⟩:aD))::D) l=Y v->(l=id/\v=⟨P.1,t⟩)\/(l≠id/\aq D l=Y v):=λl v q=>(by rw[dg] at q;grind);have ci:∀a,(w.heap.size<=a\/∃d∈s,∃e,aq ((id,(⟨k,x⟩:aD))::del [id] st.h) d=Y e/\a∈kO fp id p d)->w.heap.size<=a\/∃d∈s,∃e,aq st.h d=Y e/\a∈fp d:=λa b=>b.imp (λb=>b) (λb=>by
  obtain⟨d,o,e,g,n,_⟩:=M a b;grind)
 refine⟨kO N id (rt id),kO E id a3,⟨f.size,f.os,f.tape,f.output,?_,f.evo,f.i,?_,?_,?_,?_,?_⟩,λl q=>k8 q⟩
 ·intro a c go;refine f.heap a c (λd o e g b=>?_);obtain⟨d,o,e,g,n,_⟩:=M a ⟨d,o,e,g,b⟩;grind
 ·intro a c;exact(f.i2 a c).imp (λb=>b) (λb=>⟨b.1,ci a b.2⟩)
 ·intro l v q;rcases ad l v q with⟨rfl,rfl⟩|⟨n,H⟩
  ·rw[nQ,nQ];refine⟨.inl bs,fT,?_,λa c=>?_⟩
   ·grind
   rcases Q a c with c|c
   ·obtain⟨d1,d2,d3⟩:=f2 a c;grind
   have L:a∈fp l:=G.mem_iff.2 (by grind);refine⟨λo=>?_,je (am a c).1 f.size,.inr ⟨l,bs,P,z,L⟩⟩;rcases f.i2 a o with b|⟨_,b|b⟩
   ·grind
   ·grind
   grind
  rw[k8 n,k8 n];obtain⟨f5,d1,d2,d3⟩:=f.tree l v H;refine⟨f5.imp (λb=>b) (λb=>?_),d1,d2,λa c=>?_⟩
  ·have b:aq ((id,(⟨k,x⟩:aD))::del [id] st.h) l=bo:=b;rw[sU,aw (λm=>n m.symm)] at b;exact b
  obtain⟨v1,fv,ap⟩:=d3 a c;exact⟨v1,fv,ci a ap⟩
 ·intro d r f6 f7 o ex T a c;rcases ad d f6 o with⟨rfl,rfl⟩|⟨n,H⟩<;>rcases ad r f7 ex with⟨rfl,rfl⟩|⟨a4,bl⟩
  ·omega
  ·rw[nQ] at c;rw[k8 a4];rcases Q a c with c|c
   ·exact f.dis d r _ _ V bl T a c
   grind
  ·rw[k8 n] at c;rw[nQ];intro b;rcases Q a b with b|b
   ·exact f.dis d r _ _ H V T a c b
   grind
  rw[k8 n] at c;rw[k8 a4];exact f.dis d r _ _ H bl T a c
 ·intro m y e g;rcases fR.1 y with rfl|y
  ·rw[z] at g;cases g;exact⟨⟨P.1,t⟩,by rw[dg,au bn],bn,nQ,⟨_,co.ty⟩,f0⟩
  by_cases ao:m.1=id
  ·rw[ao,z] at g;cases g;refine⟨⟨P.1,t⟩,by rw[dg,au ao.symm],bn,by grind [nQ],⟨P.1,by rw[fl m y];cases P.1<;>rfl⟩,λdl _ _ _ q=>?_⟩;grind [DQ]
  obtain⟨v1,fv,ap,v4,f8,Ka⟩:=f.keep m y e (by rw[sU,aw (λb=>ao b.symm)];omega);rw[k8 ao] at v4 Ka;exact⟨v1,by rw[dg,aw (λb=>ao b.symm)];exact fv,ap,by grind [k8],f8,Ka⟩
 intro m y e g dl io ii hv f9 gf bx ft fs ce fz;rcases fR.1 y with rfl|y
 ·rw[z] at g;cases g;refine⟨⟨P.1,t⟩,by rw[dg,au bn],uC bx cs ce,λa0 em=>?_⟩;obtain⟨ax,an⟩:=el dl _ _ _ _ _ bx (by exact ft) ce fs fz a0 em;rw[nQ];exact⟨c1.mem_iff.2 (lm _ ax),.of_heap (S a0 ax)⟩
 grind [uB]
theorem e0.sub {v:bQ} {t:bm aj} {i S:bU _} (dl:v.op=.call {callee:=.value n,args:=i,argTypes:=S}) (d8:aU st.g n=.eA m t) (ce:v.dst=Y a) (ci:C.ok a) (fz:∀(R:ag3) (w:bD),(callFunc m R).run E.P w=.ok (.enter m R) w) {b:bm hI} {e:bm aD} (bs:rO E m b e) (d3:pg 0 b=bo) (am:∀F,C.I0 F\/C.B F->F<C.w0.heap.size/\¬C.F0 F) (an:lg E C.I0 C.w0) {id:X} {j:aD} (s:aq st.h id=Y j) {A:aZ} {p:bm aZ} {D:k.den} (O:eN j.1 j.2 (A::p) k D) {J:ag8} (d4:tj (i.toList.map (aU st.g)++t) J=Y (id,A::p)) {c:bm aj} (a4:c=mH id (i.toList.map (aU st.g)++t) J) (a3:oG ((id,⟨k,D⟩)::del [id] st.h) (gv c b) c b) (G:nv a ⟨[],(id,⟨k,D⟩)::del [id] st.h⟩ c b e=bp) (a0:id∈gv c b) (ap:id∈mB c b) {y':k.den} {z:j.1.den} (cs:aq (j8 c b++i5 a (iW e) 0 e) id=Y ⟨k,y'⟩) (d2:e9 j.1 j.2 (A::p) k y' z) (r:u ⟨(a,vg a e)::ahw (gv c b) ((id,A::p)::xi (mB c b)) st.g,((id,⟨j.1,z⟩)::(j8 c b++i5 a (iW e) 0 e))++del (gv c b) st.h⟩):e0 E C v st u:=by
 rintro d w ⟨I,rt,fp,l⟩ next ex c2
 obtain⟨o,d7,ad⟩:∃o:ag3,d.eval n=.func (.func m) #[] o/\iB (cP (bf I C.B) w st.h rt fp) t o.toList:=by
  have H:=l.aU n;rw[d8] at H;generalize f2:d.eval n=f8 at H;cases H with|eA f0 fT=>
  grind [yy]
 have bl:iB (cP (bf I C.B) w st.h rt fp) (i.toList.map (aU st.g)++t) (i.toList.map d.eval++o.toList):=FL (FM (λn=>l.aU n) _) ad;obtain⟨ek,el,f4⟩:=l.tree id j s;obtain⟨eq,fl,_,_,K,_⟩:=Dy (A::p) (loc:=bo) ek (λ_ _ r=>by cases r) el (λ_ _ r=>by cases r) (l.notM s) O;obtain⟨U,f5,ax,d9,ds⟩:=nk.aa0 l s O K;have M:=l.split s ax d9;have N:=Sw (y:=D) (f:=U) l s K bl d4;rw[<-a4] at N;have bx:=M.call N bs a3 G (λ_ _=>by rw[d3];trivial) (M.glob am an);have d1:(bL d.eval v).run E.P w=.ok (.enter m (i.toList.map d.eval++o.toList).toArray) w:=(by have ao:i.map d.eval=(i.toList.map d.eval).toArray:=(by rw[<-Array.toList_map]);have T:(i.toList.map d.eval++o.toList).toArray=(i.toList.map d.eval).toArray++o:=ac;rw[T];simp only[bL,dl,ahU,ao,bY,d7,Deferred.ofValue,cy,b1,invoke,Array.empty_append,Array.append_empty];grind);unfold ahp;rw[d1];show Calls E.P m _ w _;refine bx.mono ?_;rintro q w' ⟨I',f6,fn,em,rfl,d5,d0⟩;show next (d.put v.dst (qi em)) w'
 rw[ce];obtain⟨f7,fs,d6,f1⟩:=ds d5 a0 cs (eP.2 ⟨id,ap,bn⟩) (λq co=>by obtain⟨f3,_,rfl⟩:=eP.1 co;rfl) d2;simp only[nv,cC,g0] at G;have cv:=jz.ok G.1.2;refine c2 _ _ _ r bn ⟨I',_,_,(l.eC d6).put ci (av:=vg a e) (d0 _ _ _ (λx Q=>?_))⟩;have V:=PS cv x Q;have L:=G.2 x Q;have c1:x.1≠id:=λq=>(by rw[q,sU,au bn] at L;cases L);have ft:aq ((id,(⟨j.1,z⟩:aD))::(j8 c b++i5 a (iW e) 0 e)) x.1=Y x.2:=(by rw[dg,aw (λq=>c1 q.symm)];exact V);grind [kH,fh]
end
end
section
def jK:X->bm hI->bm (X×aj)
 |_,[]=>[]
 |k,.v b::a=>(k,.val b.1 b.2)::jK (k+1) a
 |k,.m _ _::a=>(k,.ref k [])::jK (k+1) a
 |k,.o _::a=>(k,.ref k [])::jK (k+1) a
 |k,.n::a=>(k,.df (.slice bo 0 0))::jK (k+1) a
 |k,.w _ _ e d _::a=>(k,.view k [] e d)::jK (k+1) a
 |k,.s _ _::a=>jK (k+1) a
 |k,.c f g::a=>(k,.eA f (g.map λb=>.val b.1 b.2))::jK (k+1) a
def kc:X->bm hI->bm (X×aD)
 |_,[]=>[]
 |k,.v _::a=>kc (k+1) a
 |k,.m b _::a=>(k,b)::kc (k+1) a
 |k,.o b::a=>(k,b)::kc (k+1) a
 |k,.w e d _ _ _::a=>(k,⟨.osl e,d⟩)::kc (k+1) a
 |k,.c _ _::a=>kc (k+1) a
 |k,.n::a=>kc (k+1) a
 |k,.s _ _::a=>kc (k+1) a
def hT:X->bm hI->ahb
 |_,[]=>[]
 |k,.m _ _::a=>k::hT (k+1) a
 |k,.w _ _ _ _ _::a=>k::hT (k+1) a
 |k,_::a=>hT (k+1) a
def tP (a:eZ):bv ec->Prop
 |none=>True
 |some (c,g,d)=>c∈a.pin/\(∀h∈d,h∈a.pin)/\∃b e f,a.vs c=.pointer (Y ⟨b,e,bo⟩)/\b<a.w0.heap.size/\¬a.F0 b/\a.w0.cell? ⟨b,e,bo⟩=Y (.func (.func g) #[] f)/\f.toList=d.map a.vs
def nP:bv ec->ahb
 |none=>[]
 |some (a,_,b)=>a::b
def r3 (j:b0) (e:aM) (a:aD):ahj->ahb->Prop
 |.tmp m,c=>match gt e.g m with
  |.val i n=>(⟨i,n⟩:aD)=a/\c=[]
  |.df f=>iQ a.1 f.cells.toList=Y a.2/\cW a.1 f.cells.toList=f/\c=[]
  |.ref id d=>c=[id]/\∃b,aq e.h id=Y b/\eN b.1 b.2 d a.1 a.2
  |_=>b5
 |.cell l k,c=>fi j a.1 k/\match gt e.g l with
  |.ref id d=>c=[id]/\∃b i,aq e.h id=Y b/\fk b.1 d=Y (.optr i)/\eN b.1 b.2 (d++[.deref]) a.1 a.2
  |_=>b5
def tO (b:b0) (d:aM):bm ahj->bm aD->ahb->Prop
 |[],[],a=>a=[]
 |r::f,e::g,a=>e.1.fY=bp/\∃i1 c,a=i1++c/\r3 b d e r i1/\tO b d f g c
 |_,_,_=>b5
def pF (a:aM):X->bm hI->Prop
 |_,[]=>True
 |k,.m c l::b=>(gt a.g k=.ref k []/\aq a.h k=Y ⟨c.1,l⟩/\c.1.fY=bp/\rK c.1=bp)/\pF a (k+1) b
 |k,.w i j e d f::b=>(gt a.g k=.view k [] e d/\aq a.h k=Y ⟨.osl i,f⟩/\(i.fY=bp/\e<d)/\f.length=j.length)/\pF a (k+1) b
 |k,_::b=>pF a (k+1) b
def Kr (e:b0) (a:bm hI) (g:bm ahj) (f:bm aD) (b:b4) (d:aM):Prop:=
 (b=.normal\/b=.ret)/\∃c,tO e d g f c/\jz (hT 0 a++c)=bp/\pF d 0 a
section
variable {E:fy}
theorem Tm {h:X->Prop} {b:bm aD} (g:iB (x9 h O v) b R):cP (bf h O) v e x y (.eA a (b.map λc=>.val c.1 c.2)) (.func (.func a) #[] R.toArray):=by
 have q:=KV g;refine .eA (by grind) (λf o j d i=>?_);have k:∀{b:bm aD} {R:ag5} {f:X} {c:aD} {j:Value},iB (x9 h O v) b R->b[f]?=Y c->R[f]?=Y j->x9 h O v c j:=by
  intro b
  induction b with
  |nil=>grind
  |cons s b n=>
   intro R f c j g d i;cases R with
   |nil=>grind
   |cons r R=>
    cases f with
    |zero=>simp only[qz,eU] at d i;subst d i;exact g.1
    |succ f=>exact n g.2 (by simpa using d) (by grind)
 rw[jn] at d;obtain⟨c,m,rfl⟩:=fB.1 d;obtain⟨p,rfl,l⟩:=k g m (by simpa using i);exact .val l
theorem Lb {q p:X->Prop} {w:bD}:∀{k:X} {d:bm hI} {D:ag5} {x:ev},mn (x6 q p w) d D x->∃(h:X->ag5) (e:X->ahb),(∀id b,aq (kc k d) id=Y b->k<=id/\(∃u,x[id-k]?=Y u/\e id=u)/\aS (bf q p) w b.1 (h id) b.2 (e id))/\(∀a,gt (jK k d) (k+a)=.dead\/∃v,D[a]?=Y v/\cP (bf q p) w (kc k d) h e (gt (jK k d) (k+a)) v)/\(∀a,a<k->gt (jK k d) a=.dead)
 |k,[],D,x,t=>⟨λ_=>[],λ_=>[],(λid b t=>by cases t),λa=>.inl bn,λa _=>rfl⟩
 |k,j::d,[],x,t=>t.elim
 |k,j::d,v::D,[],t=>t.elim
 |k,j::d,v::D,u::x,t=>by
  obtain⟨A,T⟩:=t;obtain⟨h,e,i1,H,Q⟩:=Lb (k:=k+1) T;have I:∀id b,aq (kc (k+1) d) id=Y b->k<=id/\(∃E,(u::x)[id-k]?=Y E/\e id=E)/\aS (bf q p) w b.1 (h id) b.2 (e id):=λid b P=>(by grind);have M:∀(b:aD) (r:ag5) (J:aj),(∀(z:bm (X×aD)) (C:X->ag5) (F:X->ahb),aq z k=Y b->C k=r->cP (bf q p) w z C F J v)->aS (bf q p) w b.1 r b.2 u->kc k (j::d)=(k,b)::kc (k+1) d->jK k (j::d)=(k,J)::jK (k+1) d->_:=λb r J f l ao O=>by
   refine(⟨λG=>if G=k then r else h G,λG=>if G=k then u else e G,?_,?_,?_⟩:∃(h:X->ag5) (e:X->ahb),(∀id b,aq (kc k (j::d)) id=Y b->k<=id/\(∃E,(u::x)[id-k]?=Y E/\e id=E)/\aS (bf q p) w b.1 (h id) b.2 (e id))/\(∀a,gt (jK k (j::d)) (k+a)=.dead\/∃i,(v::D)[a]?=Y i/\cP (bf q p) w (kc k (j::d)) h e (gt (jK k (j::d)) (k+a)) i)/\(∀a,a<k->gt (jK k (j::d)) a=.dead))
   ·grind [dg]
   ·intro a;rw[O,iV];cases a with
    |zero=>
     right;refine⟨v,bn,?_⟩;rw[au aa];exact f _ _ _ (by rw[ao,dg,au bn]) (by grind)
    |succ a=>
     rw[aw aa,(aa:k+(a+1)=k+1+a)];refine(H a).imp id ?_;rintro⟨i,ax,g⟩;refine⟨i,by grind,?_⟩;refine g.s2 (λm K U=>⟨U,cp w K⟩) (λid _ am P=>?_);obtain⟨bl,_,bs⟩:=i1 id am P;have an:¬id=k:=aa;have ap:¬k=id:=aa;simp_all [dg,aw,cp]
   intro a y;rw[O,iV,aw aa];grind
  cases j with
  |v b=>
   obtain⟨rfl,r,f,l⟩:=A;refine⟨h,e,I,λa=>?_,λa y=>?_⟩
   ·show gt ((k,_)::_) _=_\/_;rw[iV];cases a with
    |zero=>
     right;refine⟨v,bn,?_⟩;show cP _ _ _ _ _ (gt ((k,_)::_) _) _;rw[iV,au aa,f];exact .val l
    |succ a=>
     rw[aw aa,(aa:k+(a+1)=k+1+a)];refine(H a).imp id ?_;rintro⟨i,ax,g⟩;refine⟨i,by grind,?_⟩;show cP _ _ _ _ _ (gt ((k,_)::_) _) _;rw[iV,aw aa];exact g
   show gt ((k,_)::_) _=_;rw[iV,aw aa];grind
  |n=>
   obtain⟨rfl,f⟩:=A;refine⟨h,e,I,λa=>?_,λa y=>?_⟩
   ·show gt ((k,_)::_) _=_\/_;rw[iV];cases a with
    |zero=>
     right;refine⟨v,bn,?_⟩;show cP _ _ _ _ _ (gt ((k,_)::_) _) _;rw[iV,au aa,f];exact .df _
    |succ a=>
     rw[aw aa,(aa:k+(a+1)=k+1+a)];refine(H a).imp id ?_;rintro⟨i,ax,g⟩;refine⟨i,by grind,?_⟩;show cP _ _ _ _ _ (gt ((k,_)::_) _) _;rw[iV,aw aa];exact g
   show gt ((k,_)::_) _=_;rw[iV,aw aa];grind
  |s av a3=>
   refine⟨h,e,I,λa=>?_,λa y=>Q a aa⟩;cases a with
   |zero=>exact .inl (Q k aa)
   |succ a=>
    have y:=H a;rw[(aa:k+1+a=k+(a+1))] at y;refine y.imp id ?_;rintro⟨i,ax,g⟩;exact⟨i,by grind,g⟩
  |c n bx=>
   obtain⟨rfl,ce,f,l⟩:=A;refine⟨h,e,I,λa=>?_,λa y=>?_⟩
   ·show gt ((k,_)::_) _=_\/_;rw[iV];cases a with
    |zero=>
     right;refine⟨v,bn,?_⟩;show cP _ _ _ _ _ (gt ((k,_)::_) _) _;rw[iV,au aa,f];exact Tm l
    |succ a=>
     rw[aw aa,(aa:k+(a+1)=k+1+a)];refine(H a).imp id ?_;rintro⟨i,ax,g⟩;refine⟨i,by grind,?_⟩;show cP _ _ _ _ _ (gt ((k,_)::_) _) _;rw[iV,aw aa];exact g
   show gt ((k,_)::_) _=_;rw[iV,aw aa];grind
  |m b ci=>obtain⟨r,f,l⟩:=A;exact M b r (.ref k []) (λz C F ax g=>by subst f;exact .ref (loc:=bo) ax (by grind [aiL])) l bn rfl
  |o b=>obtain⟨r,f,l⟩:=A;exact M b r (.ref k []) (λz C F ax g=>by subst f;exact .ref (loc:=bo) ax (by grind [aiL])) l bn rfl
  |w S R B L co=>
   obtain⟨K,o,N,f,⟨a4,V,ad⟩,l⟩:=A;refine M ⟨.osl S,R⟩ _ (.view k [] B L) (λz C F ax g=>?_) l bn rfl;have a0:cP (bf q p) w z C F (.view k [] B L) (.slice (Y ⟨K,if N=B then o else o+B*S.size,bo⟩) (L-B) (N-B)):=.view (loc:=bo) (len:=R.length) ax (by grind [aiL]) aa V ad;grind
theorem XF {a:ev} (g:a.flatten.Nodup):(∀(c:X) b,a[c]?=Y b->b.Nodup)/\∀(c e:X) b d,a[c]?=Y b->a[e]?=Y d->c≠e->∀f∈b,f∉d:=by
 induction a with
 |nil=>grind
 |cons i a h=>
  simp only[lQ,jY] at g;grind [List.getElem?_cons_zero,ais,aiC,aht]
def AE (b:ag3):ahj->Sem Value
 |.tmp a=>aim (b.getD a bW)
 |.cell c a=>do loadVar a (<-asAddr (b.getD c bW))
def aco {f:Func} {e:bm ahj} (h:f.results=e.toArray) (c:ag3) (a:bD) (i:(e.mapM (AE c)).run p a=.ok R a):(results f c).run p a=.ok (qi R) a:=by
 unfold results;simp only[bY,h];rw[aku,Sem.run_map];have j:∀b:ahj->Sem Value,(∀d,b d=AE c d)->(e.mapM b).run p a=.ok R a:=λb g=>(by rw[show b=AE c from funext g];exact i);rw[j _ (λd=>by cases d<;>rfl)];simp only[b1,cy];congr 1
 match R with
 |[]=>rfl
 |[r]=>rfl
 |r::l::k=>simp[qi]
theorem r3.rep {H:eZ} {d:ag3} {C:X->ahb} (q:cM H i d v O x C) (D:P.1.fY=bp) {c:ahj} (a:r3 p i P c f):∃o I,(AE d c).run p v=.ok o v/\Be O v P o I/\(∃ap,(f.map C).flatten.Perm (I++ap))/\∀id∈f,∃P,aq i.h id=Y P:=by
 have K:∀(id:X) (g:aD) (l:bm aZ),aq i.h id=Y g->eN g.1 g.2 l P.1 P.2->∃u m k n,aX v g.1 bo (x id) l P.1 u m/\aS (bf O H.B) v P.1 m P.2 k/\pE v u m P.1.size/\(C id).Perm (k++n):=(by intro id g l e r;obtain⟨ax,G,bl⟩:=q.tree id _ e;obtain⟨u,m,k,n,w,z,F,J,_⟩:=Dy l (τ':=P.1) (y:=P.2) ax (loc:=bo) (λ_ _ a=>by cases a) G (λ_ _ a=>by cases a) (q.notM e) r;grind);cases c with
 |tmp c=>
  have b:=q.tmp c;simp only[r3] at a;split at a
  ·rename_i a0 bx j;rw[j] at b;obtain⟨rfl,rfl⟩:=a;generalize E:d.getD c bW=o at b;cases b with|val av=>
   exact⟨_,[],by show(aim (d.getD c bW):Sem Value).run p v=_;simp_all,⟨_,bn,av.fY D⟩,⟨[],ac⟩,ac⟩
  ·rename_i o j;rw[j] at b;obtain⟨ax,G,rfl⟩:=a;generalize E:d.getD c bW=bs at b;cases b;exact⟨_,[],by show(aim (d.getD c bW):Sem Value).run p v=_;simp_all,⟨_,G.symm,pS ax⟩,⟨[],ac⟩,ac⟩
  ·rename_i id l j;rw[j] at b;obtain⟨rfl,g,e,r⟩:=a;generalize E:d.getD c bW=o at b;cases b with|ref t s=>
   rw[e] at t;cases t;obtain⟨u,m,k,n,w,z,F,J⟩:=K id g l e r;obtain⟨rfl,rfl,rfl⟩:=s.lu w;refine⟨_,k,by show(aim (d.getD c bW):Sem Value).run p v=_;simp_all,⟨_,bn,z.fY D⟩,⟨n,by grind⟩,λam U=>?_⟩;grind
  grind
 |cell A L=>
  have b:=q.tmp A;simp only[r3] at a;obtain⟨a3,a⟩:=a;split at a
  ·rename_i id l j;rw[j] at b;obtain⟨rfl,g,a0,e,ad,r⟩:=a;generalize E:d.getD A bW=o at b;cases b with|ref t s=>
   rw[e] at t;cases t;have:=s.ty;rw[ad] at this;cases this;obtain⟨M,an,R,rfl,N,Q⟩:=pd (q.tree id _ e).1 s;have V:=s.append (aX.G5 N Q);obtain⟨u,m,k,n,w,z,F,J⟩:=K id g _ e r;obtain⟨ao,S,T⟩:=V.lu w;subst S;subst T;subst ao;have a4:=(F M an bn).1;refine⟨cW P.1 R,k,?_,⟨_,bn,z.fY D⟩,⟨n,by grind⟩,λam U=>?_⟩
   ·show(do loadVar L (<-asAddr (d.getD A bW)):Sem Value).run p v=_;grind [JB,bY,cy,b1,cW,List.headD,asAddr]
   grind
  grind
theorem tO.rep {j:b0} {o:eZ} {f:aM} {n:ag3} {e w0:bD} {i:X->Prop} {z:X->ag5} {k:X->ahb} (l:cM o f n e i z k):∀{d:bm ahj} {m:bm aD} {a:ahb},tO j f d m a->∃vs c,(d.mapM (AE n)).run j e=.ok vs e/\mn (Be i e) m vs c/\(∃w,(a.map k).flatten.Perm (c.flatten++w))/\∀id∈a,∃g,aq f.h id=Y g
 |[],[],a,b=>by obtain rfl:a=[]:=b;exact⟨[],[],bn,trivial,⟨[],.refl _⟩,ac⟩
 |[],g::A,a,b=>b.elim
 |r::d,[],a,b=>b.elim
 |r::d,g::A,a,b=>by
  obtain⟨v,i1,K,rfl,t,u⟩:=b;obtain⟨B,s,C,p,⟨x,D⟩,E⟩:=t.rep l v;obtain⟨vs,c,F,q,⟨y,G⟩,H⟩:=tO.rep (w0:=w0) l u;refine⟨B::vs,s::c,?_,⟨p,q⟩,⟨x++y,?_⟩,λJ I=>?_⟩
  ·simp_all
  ·grind
  grind
theorem Lc:∀{k:X} {args:bm hI},∀b∈hT k args,k<=b
 |k,[],b,a=>by cases a
 |k,f::args,b,a=>by
  have d:=Lc (k:=k+1) (args:=args);cases f with
  |m e q=>
   rcases fR.1 a with rfl|a
   ·omega
   grind
  |w t p j h r=>
   rcases fR.1 a with rfl|a
   ·omega
   grind
  |v e=>have:=d b a;omega
  |o e=>have:=d b a;omega
  |c n l=>have:=d b a;omega
  |n=>have:=d b a;omega
  |s g i=>have:=d b a;omega
theorem pF.rep {Q:eZ} {A:aM} {E:ag3} {w:bD} {F:X->Prop} {L:X->ag5} {t:X->ahb} (u:cM Q A E w F L t) {B:X->Prop}:∀{k:X} {f:bm hI} {vs:ag5},pF A k f->vs.length=f.length->(∀e,e∈hT k f->∀v,vs[e-k]?=Y v->E.getD e bW=v)->∃b,mn (x7 F B w) f vs b/\b.flatten=((hT k f).map t).flatten/\∀id∈hT k f,k<=id/\∃r,aq A.h id=Y r
 |k,[],vs,g,C,x=>by cases vs with
  |nil=>exact⟨[],trivial,bn,by simp[hT]⟩
  |cons=>cases C
 |k,G::f,[],g,C,x=>by cases C
 |k,G::f,v::vs,g,C,x=>by
  have p:pF A (k+1) f->(∀e,e∈hT (k+1) f->e∈hT k (G::f))->∃b,mn (x7 F B w) f vs b/\b.flatten=((hT (k+1) f).map t).flatten/\∀id∈hT (k+1) f,k+1<=id/\∃r,aq A.h id=Y r:=λg T=>by
   have a4:=Lc (k:=k+1) (args:=f);exact pF.rep u g (by grind) (λe i am bs=>x e (T e i) am (by
    grind))
  cases G with
  |v r=>
   obtain⟨b,j,q,d⟩:=p g (λe i=>i);exact⟨[]::b,⟨bn,j⟩,by grind [hT],λid a=>⟨by have:=(d id a).1;omega,(d id a).2⟩⟩
  |o r=>
   obtain⟨b,j,q,d⟩:=p g (λe i=>i);exact⟨[]::b,⟨bn,j⟩,by grind [hT],λid a=>⟨by have:=(d id a).1;omega,(d id a).2⟩⟩
  |n=>
   obtain⟨b,j,q,d⟩:=p g (λe i=>i);exact⟨[]::b,⟨bn,j⟩,by grind [hT],λid a=>⟨by have:=(d id a).1;omega,(d id a).2⟩⟩
  |s a3 ce=>
   obtain⟨b,j,q,d⟩:=p g (λe i=>i);exact⟨[]::b,⟨bn,j⟩,by grind [hT],λid a=>⟨by have:=(d id a).1;omega,(d id a).2⟩⟩
  |c n dl=>
   obtain⟨b,j,q,d⟩:=p g (λe i=>i);exact⟨[]::b,⟨bn,j⟩,by grind [hT],λid a=>⟨by have:=(d id a).1;omega,(d id a).2⟩⟩
  |m r d0=>
   obtain⟨⟨J,z,K,U⟩,g⟩:=g;obtain⟨b,j,q,d⟩:=p g (λe i=>g6 _ i);have l:=u.tmp k;rw[J] at l;have I:E.getD k bW=v:=x k (by simp[hT]) v ac;rw[I] at l;obtain⟨D,_⟩:=u.tree k _ z;refine⟨t k::b,⟨?_,j⟩,by grind [air,hT],λid a=>?_⟩
   ·cases l with|ref y H=>
    rw[z] at y;cases y;obtain⟨rfl,rfl,rfl⟩:=ahI.1 H;exact⟨L k,bn,D.fY K⟩
   rcases fR.1 a with rfl|a
   ·grind
   grind
  |w an ds ci bl d1=>
   obtain⟨⟨J,z,⟨K,U⟩,bx⟩,g⟩:=g;obtain⟨b,j,q,d⟩:=p g (λe i=>g6 _ i);have l:=u.tmp k;rw[J] at l;have I:E.getD k bW=v:=x k (by simp[hT]) v ac;rw[I] at l;obtain⟨D,_⟩:=u.tree k _ z;refine⟨t k::b,⟨?_,j⟩,by grind [air,hT],λid a=>?_⟩
   ·cases l with
    |ma=>omega
    |view y H ax cs cv=>
    rename_i c2 d2 co M P V N;rw[z] at y;cases y;obtain⟨ao,a0,R⟩:=ahI.1 H;simp only[ai.osl.injEq] at ao;subst ao;have O:L k=[.slice (Y ⟨M,P,bo⟩) V N]:=R;have S:=D;obtain⟨ap,av,ad,c1⟩:=S;rw[ad] at O;simp only[hP,ahm,b8] at O;refine⟨M,P,N,by rw[aw aa],aa,?_⟩;have:=aS.fY (τ:=.osl an) (B':=B) K D;grind
   rcases fR.1 a with rfl|a
   ·grind
   grind
theorem rO.XZ {q:FuncId} {j:Func} {c:cr} {b:bm hI} {a0:bm ahj} {C:bm aD} (ds:E.P.funcs[q]?=Y j) (f:j.body=Y c) (d3:j.results=a0.toArray) (ft:b.length<=j.ntmps) (g:∀d:eZ,d.n=j.ntmps->d.pin=hT 0 b++nP (pg 0 b)->(∀a,d.I0 a\/d.B a->a<d.w0.heap.size/\¬d.F0 a)->tP d (pg 0 b)->lg E d.I0 d.w0->J E d c ⟨jK 0 b,kc 0 b⟩ (Kr E.P b a0 C)):rO E q b C:=by
 intro r s y l K R N d1 O U d0;obtain⟨d6,fs⟩:=FN N;obtain⟨a3,H,bx,ce,fl⟩:=Lb (k:=0) N
 let d:eZ:={I0:=s,B:=y,F0:=λa=>a∈K.flatten,w0:=r,n:=j.ntmps,pin:=hT 0 b++nP (pg 0 b),vs:=λi=>l.getD i bW}
 have ad:∀i,(l.toArray++akD (j.ntmps-l.toArray.size) bW).getD i bW=l.getD i undef:=(by intro i;rw[akC,mi];grind);obtain⟨fT,f0⟩:=XF d1;have cs:cM d ⟨jK 0 b,kc 0 b⟩ (l.toArray++akD (j.ntmps-l.toArray.size) bW) r s a3 H:=by
  refine{n:=?_,i0:=λ_ g=>g,i1:=λ_ g=>.inl g,ib:=R,tree:=?_,dis:=?_,tmp:=?_,frame:=λ_ _ _=>rfl,evo:=λ_ _=>.refl _ _,size:=bd _,os:=rfl,tape:=rfl,output:=rfl,pin:=λi _=>ad i}
  ·grind
  ·intro id m v;obtain⟨_,⟨q,ax,d9⟩,ek⟩:=bx id m v;rw[Nat.sub_zero] at ax;grind [aiC,aht]
  ·grind
  intro i;show cP _ _ _ _ _ (gt (jK 0 b) i) _;rw[ad];rcases ce i with g|⟨w,M,co⟩
  ·rw[mS] at g;rw[g];exact .dead _
  grind
 have d4:tP d (pg 0 b):=by
  cases o:pg 0 b with
  |none=>trivial
  |some d8=>
   obtain⟨i,q,ap⟩:=d8;rw[o] at U;obtain⟨_,_,a,d7,ex,D,F,bl,em,eq⟩:=U;have fz:d.pin=hT 0 b++nP (Y (i,q,ap)):=(by grind);refine⟨by grind [nP],λan T=>by grind [nP],a,d7,ex,D,F,bl,em,eq⟩
 refine calls_of_wp ds f (wp_mono (g d bn rfl (λa f=>⟨R a f,λt=>f.elim (O a t).1 (O a t).2.1⟩) d4 d0 _ r ⟨s,a3,H,cs⟩ rfl) ?_);rintro fn G x ⟨bs,⟨dl,am,d2,A,t⟩,⟨z,f3,I,e⟩,Q⟩;obtain⟨f4,o,el,D,⟨f2,F⟩,bl⟩:=tO.rep (w0:=r) e d2;obtain⟨p,ci,L,fp⟩:=pF.rep e (B:=y) (vs:=l) t d6 (λan T w d5=>by
  rw[Nat.sub_zero] at d5;rw[e.pin an (rX _ T)];grind)
 have A:=jz.ok A;have V:∀id∈hT 0 b++am,∃m,aq bs.h id=Y m:=λid S=>(by grind);have u:=IG e V A;rw[iy,yj,<-L] at u;have u:(p.flatten++o.flatten).Nodup:=(by have:=(ajX p.flatten F).nodup_iff.1 u;grind);have cv:∀a∈p.flatten++o.flatten,∃id m,aq bs.h id=Y m/\a∈I id:=λa f=>(by have f:a∈((hT 0 b++am).map I).flatten:=(by rw[iy,yj,<-L];grind);obtain⟨ap,M,co⟩:=lS.1 f;obtain⟨id,S,rfl⟩:=eP.1 M;obtain⟨m,v⟩:=V id S;grind);have av:∃w,(results j G.tmps).run E.P x=.ok w x/\∃z p o a4,Ending.returned w=.returned (qi a4)/\KC s y r K b l C z p o a4 x:=
  ⟨_,aco d3 G.tmps x el,z,p,o,_,bn,ci,D,u,(λa f=>by
   obtain⟨id,m,v,c1⟩:=cv a f;obtain⟨ax,d9,ek,f1⟩:=(e.tree id m v).2.2 a c1;grind),e.i0,(λa f=>by
   rcases e.i1 a f with g|g|g
   ·grind
   ·exact .inr ⟨e.ib a (.inl f),.inl g⟩
   exact .inr ⟨e.ib a (.inl f),.inr g⟩),e.size,e.os,e.tape,e.output,e.evo,λa f c2=>e.frame a f c2⟩
 rcases dl with rfl|rfl
 ·exact⟨Q,av⟩
 exact⟨Q,av⟩
end
end
section
open Classical in
def pick {a:Type} (c:a->Prop):bv a:=if h:∃b,c b then Y h.choose else bo
theorem aaV {d:b->Prop} {c:b} (a:pick d=Y c):d c:=by
 unfold pick at a;split at a
 ·grind
 grind
inductive oR where
 |v (τ:ai)
 |s (a:aj)
 |p (id:X) (a b:bm aZ)
 |w (id:X)
structure ni where
 g:bm (X×oR)
 h:bm (X×ai)
@[reducible] def ql:bm (X×oR)->Type->Type
 |[],r=>r
 |(_,.v a)::l,r=>a.den×ql l r
 |(_,.s _)::l,r=>ql l r
 |(_,.p _ _ _)::l,r=>X×ql l r
 |(_,.w _)::l,r=>ep×ql l r
@[reducible] def vk:bm (X×ai)->Type
 |[]=>bt
 |(_,a)::l=>a.den×vk l
@[reducible] def ni.den (a:ni):Type:=ql a.g (vk a.h)
def oa {e:Type}:(c:bm (X×oR))->ql c e->bm (X×aj)
 |[],_=>[]
 |(d,.v f)::c,s=>(d,.val f s.1)::oa c s.2
 |(d,.s a)::c,s=>(d,a)::oa c s
 |(d,.p id a b)::c,s=>(d,.ref id (a++.idx s.1::b))::oa c s.2
 |(d,.w id)::c,s=>(d,.view id [] s.1.1 s.1.2)::oa c s.2
def uF {b:Type}:(a:bm (X×oR))->ql a b->b
 |[],s=>s
 |(_,.v _)::a,s=>uF a s.2
 |(_,.s _)::a,s=>uF a s
 |(_,.p _ _ _)::a,s=>uF a s.2
 |(_,.w _)::a,s=>uF a s.2
def uD:(a:bm (X×ai))->vk a->bm (X×aD)
 |[],_=>[]
 |(d,b)::a,s=>(d,⟨b,s.1⟩)::uD a s.2
def kX (a:ni) (b:a.den):aM:=⟨oa a.g b,uD a.h (uF a.g b)⟩
def h2 {τ:ai} (a:ai) (b:τ.den):bv a.den:=if e:τ=a then Y (e▸b) else bo
theorem kf {a:Q.den} {b:k.den} (c:h2 k a=Y b):(⟨Q,a⟩:aD)=⟨k,b⟩:=by grind [h2]
def vt:aZ->aZ->bA
 |.idx a,.idx b=>bI a b
 |.deref,.deref|.unst,.unst|.fst,.fst|.snd,.snd=>bp
 |_,_=>bq
theorem vt.ok {a b:aZ} (c:vt a b=bp):a=b:=by cases a<;>cases b<;>first|rfl|(cases c;done)|(rw[fu c])
def l7:bm aZ->bm aZ->bA
 |[],[]=>bp
 |a::c,b::d=>vt a b&&l7 c d
 |_,_=>bq
theorem l7.ok:∀{c d:bm aZ},l7 c d=bp->c=d
 |[],[],_=>rfl
 |[],_::_,b=>by cases b
 |_::_,[],b=>by cases b
 |a::c,e::d,b=>by simp only[l7,cC] at b;rw[vt.ok b.1,l7.ok b.2]
def tS:aj->aj->bA
 |.ref a c,.ref b d=>bI a b&&l7 c d
 |.addr a c,.addr b d=>bI a b&&l7 c d
 |_,_=>bq
theorem tS.ok {a b:aj} (c:tS a b=bp):a=b:=by cases a<;>cases b<;>first|(cases c;done)|(simp only[tS,cC] at c;grind [ahZ,l7.ok])
def tT:bm aj->bm aj->bA
 |[],[]=>bp
 |a::c,b::d=>tS a b&&tT c d
 |_,_=>bq
theorem tT.ok:∀{c d:bm aj},tT c d=bp->c=d
 |[],[],_=>rfl
 |[],_::_,b=>by cases b
 |_::_,[],b=>by cases b
 |a::c,e::d,b=>by simp only[tT,cC] at b;rw[tS.ok b.1,tT.ok b.2]
def sb:aj->aj->bA
 |.eA c e,.eA d f=>bI c d&&tT e f
 |a,b=>tS a b
theorem sb.ok {a b:aj} (c:sb a b=bp):a=b:=by cases a<;>cases b<;>first|exact tS.ok c|(simp only[sb,cC] at c;grind [ahZ,tT.ok])
def AQ:bm aZ->bm aZ->bm aZ->ag7
 |[],a,.idx k::b=>bif l7 a b then Y k else bo
 |s::c,a,d::b=>bif vt s d then AQ c a b else bo
 |_,_,_=>bo
theorem QE:∀{d b e:bm aZ} {c:X},AQ d b e=Y c->e=d++.idx c::b
 |[],b,[],c,a=>by cases a
 |[],b,s::e,c,a=>by
  cases s<;>simp only[AQ] at a<;>try (cases a;done)
  grind [l7.ok]
 |s::d,b,[],c,a=>by cases a
 |s::d,b,g::e,c,a=>by
  simp only[AQ] at a;cases f:vt s g with
  |false=>grind
  |true=>rw[f] at a;rw[vt.ok f,QE a];rfl
def qg {f:Type} (e:bm (X×aj)) (g:bv f):(c:bm (X×oR))->bv (ql c f)
 |[]=>g
 |(d,.v o)::c=>match gt e d with
  |.val _ m=>match h2 o m with
   |some n=>(qg e g c).map (λi=>(n,i))
   |none=>bo
  |_=>bo
 |(d,.s a)::c=>match sb a (gt e d) with
  |true=>qg e g c
  |false=>bo
 |(d,.p id a b)::c=>match gt e d with
  |.ref h i=>bif bI id h then match AQ a b i with
   |some k=>(qg e g c).map (λf=>(k,f))
   |none=>bo else bo
  |_=>bo
 |(d,.w id)::c=>match gt e d with
  |.view h [] l j=>bif bI id h then(qg e g c).map (λf=>((l,j),f)) else bo
  |_=>bo
def Ez (b:bm (X×aD)):(a:bm (X×ai))->bv (vk a)
 |[]=>Y ()
 |(d,g)::a=>match aq b d with
  |some e=>match h2 g e.2 with
   |some f=>(Ez b a).map (λc=>(f,c))
   |none=>bo
  |none=>bo
def xd:bm (X×ai)->X->bA
 |[],_=>bq
 |(k,_)::r,n=>bif bI k n then bp else xd r n
def qm:bm (X×oR)->bm (X×ai)->bA
 |[],_=>bp
 |(_,.v _)::l,h=>qm l h
 |(_,.s a)::l,h=>(a.ids.all λid=>xd h id)&&qm l h
 |(_,.p id _ _)::l,h=>xd h id&&qm l h
 |(_,.w id)::l,h=>xd h id&&qm l h
def proj (a:ni) (b:aM):bv a.den:=bif qm a.g a.h then qg b.g (Ez b.h a.h) a.g else bo
theorem Dk:∀{b:bm (X×ai)} {c:vk b} {id:X},xd b id=bp->(aq (uD b c) id).isSome=bp
 |[],_,_,a=>by cases a
 |(k,e)::b,c,id,a=>by
  simp only[xd] at a;simp only[uD,aq];cases d:bI k id with
  |true=>rfl
  |false=>rw[d] at a;exact Dk (by grind)
theorem As {o:Type} {q:aM} {n:bv o}:∀{e:bm (X×oR)} {f:ql e o},qg q.g n e=Y f->oZ (oa e f) q/\n=Y (uF e f)
 |[],f,c=>⟨trivial,c⟩
 |(d,.v F)::e,f,c=>by
  simp only[qg] at c;split at c
  case h_2=>cases c
  rename_i G D t;split at c
  case h_2=>cases c
  rename_i E u;obtain⟨x,k,rfl⟩:=fB.1 c;obtain⟨h,i⟩:=As k;refine⟨⟨?_,h⟩,i⟩;rw[t];cases kf u;rfl
 |(d,.s a)::e,f,c=>by
  simp only[qg] at c;split at c
  case h_2=>cases c
  rename_i r;obtain⟨h,i⟩:=As c;exact⟨⟨(sb.ok r).symm,h⟩,i⟩
 |(d,.p id a b)::e,f,c=>by
  simp only[qg] at c;split at c
  case h_2=>cases c
  rename_i m x k;cases j:bI id m with
  |false=>grind
  |true=>
  rw[j] at c;simp only[bG] at c;split at c
  case h_2=>cases c
  rename_i B A;obtain⟨y,l,rfl⟩:=fB.1 c;obtain⟨h,i⟩:=As l;refine⟨⟨?_,h⟩,i⟩;grind [QE,ahZ]
 |(d,.w id)::e,f,c=>by
  simp only[qg] at c;split at c
  case h_2=>cases c
  rename_i m C z k;cases j:bI id m with
  |false=>grind
  |true=>
  rw[j] at c;simp only[bG] at c;obtain⟨y,l,rfl⟩:=fB.1 c;obtain⟨h,i⟩:=As l;refine⟨⟨?_,h⟩,i⟩;simp_all
theorem PB {e:aM}:∀{b:bm (X×ai)} {c:vk b},Ez e.h b=Y c->o0 (uD b c) e
 |[],c,a=>trivial
 |(d,m)::b,c,a=>by
  simp only[Ez] at a;split at a
  case h_2=>cases a
  rename_i k g;split at a
  case h_2=>cases a
  rename_i l i;obtain⟨j,f,rfl⟩:=fB.1 a;refine⟨?_,PB f⟩;grind [kf]
theorem AO {r:Type} {c:bm (X×ai)} {t:vk c}:∀{l:bm (X×oR)} {s:ql l r},qm l c=bp->my (oa l s) (uD c t)=bp
 |[],s,h=>rfl
 |(d,.v e)::l,s,h=>by have:=AO (r:=r) (t:=t) (l:=l) (s:=s.2) h;simp only[my,oa,rU,bT,akE,ajd] at this|-;omega
 |(d,.s a)::l,s,h=>by simp only[qm,cC] at h;have:=AO (r:=r) (t:=t) (l:=l) (s:=s) h.2;simp only[my,oa,rU,cC] at this|-;grind [Dk,aij]
 |(_,.p id a b)::l,s,h=>by simp only[qm,cC] at h;have:=AO (r:=r) (t:=t) (l:=l) (s:=s.2) h.2;simp only[my,oa,rU,cC] at this|-;refine⟨?_,this⟩;simp_all [Dk,rU,akE,ajY,bT]
 |(_,.w id)::l,s,h=>by simp only[qm,cC] at h;have:=AO (r:=r) (t:=t) (l:=l) (s:=s.2) h.2;simp only[my,oa,rU,cC] at this|-;refine⟨?_,this⟩;simp_all [Dk,rU,akE,ajY,bT]
theorem ta {a:ni} {b:a.den} (c:proj a i=Y b):oZ (kX a b).g i/\o0 (kX a b).h i/\my (kX a b).g (kX a b).h=bp:=by
 unfold proj at c;cases d:qm a.g a.h with
 |false=>grind
 |true=>
  rw[d] at c;obtain⟨e,f⟩:=As c;exact⟨e,PB f,AO d⟩
inductive hq where
 |v (τ:ai)
 |m (τ:ai)
 |o (τ:ai)
 |c (f:X) (τs:bm ai)
 |n
 |s (f:X) (l:ahb)
 |w (σ:ai)
@[reducible] def lD:bm ai->Type
 |[]=>bt
 |τ::a=>τ.den×lD a
@[reducible] def hu:bm hq->Type
 |[]=>bt
 |.c _ e::a=>lD e×hu a
 |.n::a=>bt×hu a
 |.s _ _::a=>bt×hu a
 |.v b::a=>b.den×hu a
 |.m b::a=>b.den×hu a
 |.o b::a=>b.den×hu a
 |.w d::a=>(bm d.den×X×X)×hu a
@[reducible] def iS:bm hq->Type->Type
 |[],a=>a
 |.m e::b,a=>e.den×iS b a
 |.w d::b,a=>bm d.den×iS b a
 |.v _::b,a=>iS b a
 |.o _::b,a=>iS b a
 |.c _ _::b,a=>iS b a
 |.n::b,a=>iS b a
 |.s _ _::b,a=>iS b a
structure jF where
 f:X
 ps:bm hq
 rs:bm ai
 xU:hu ps->bv (iS ps (lD rs))
def iY:(c:bm ai)->lD c->bm aD
 |[],_=>[]
 |τ::b,a=>⟨τ,a.1⟩::iY b a.2
def gK {j:Type}:(f:bm hq)->hu f->iS f j->bm hI
 |[],_,_=>[]
 |.v e::d,a,b=>.v ⟨e,a.1⟩::gK d a.2 b
 |.m e::d,a,b=>.m ⟨e,a.1⟩ b.1::gK d a.2 b.2
 |.o e::d,a,b=>.o ⟨e,a.1⟩::gK d a.2 b
 |.c h l::d,a,b=>.c h (iY l a.1)::gK d a.2 b
 |.n::d,a,b=>.n::gK d a.2 b
 |.w k::d,a,b=>.w k a.1.1 a.1.2.1 a.1.2.2 b.1::gK d a.2 b.2
 |.s g i::d,a,b=>.s g i::gK d a.2 b
def it {d:Type}:(e:bm hq)->iS e d->d
 |[],a=>a
 |.m _::b,a=>it b a.2
 |.w _::b,a=>it b a.2
 |.v _::b,a=>it b a
 |.o _::b,a=>it b a
 |.c _ _::b,a=>it b a
 |.n::b,a=>it b a
 |.s _ _::b,a=>it b a
def jC:X->bm hq->bv ec
 |_,[]=>bo
 |k,.s a b::_=>Y (k,a,b)
 |k,_::c=>jC (k+1) c
theorem AJ {r:Type}:∀{k:X} {ps:bm hq} {a:hu ps} {b:iS ps r},pg k (gK ps a b)=jC k ps
 |k,[],a,b=>rfl
 |k,e::d,a,b=>by have c:=λa b=>AJ (r:=r) (k:=k+1) (ps:=d) (a:=a) (b:=b);cases e<;>first|exact c _ _|rfl
def aI (E:fy) (a:jF):Prop:=
 (∀(d:ag3) (e:bD),(callFunc a.f d).run E.P e=.ok (.enter a.f d) e)/\∀c b,a.xU c=Y b->rO E a.f (gK a.ps c b) (iY a.rs (it a.ps b))
def h4:(j:ai)->j.den->bm aZ->(a:ai)->bv a.den
 |_,c,[],a=>h2 a c
 |.osl d,i,.idx h::b,a=>match i[h]? with
  |some g=>h4 d g b a
  |none=>bo
 |.optr d,c,.deref::b,a=>h4 d c b a
 |.st d,c,.unst::b,a=>h4 d c b a
 |.pr e _,c,.fst::b,a=>h4 e c.1 b a
 |.pr _ f,c,.snd::b,a=>h4 f c.2 b a
 |_,_,_,_=>bo
def Vz {a:k.den}:h4 k a [] Q=h2 Q a:=by cases k<;>rfl
theorem iR:∀{g:bm aZ} {τ:ai} {e:τ.den} {d:ai} {f:d.den},h4 τ e g d=Y f->eN τ e g d f
 |[],τ,e,d,f,c=>by rw[Vz] at c;cases kf c;grind [eN.gz]
 |s::g,τ,e,d,f,c=>by
  cases τ<;>cases s<;>simp only[h4] at c<;>try (cases c;done)
  case osl.idx t i=>
   split at c
   ·rename_i h j;exact⟨h,j,iR c⟩
   grind
  case optr.deref t=>exact iR (τ:=t) c
  case st.unst t=>exact iR (τ:=t) c
  case pr.fst a b=>exact iR (τ:=a) c
  case pr.snd a b=>exact iR (τ:=b) c
def xJ {τ':ai} (b:τ'.den) (a:ai):bv a.den:=if e:eH τ' a=bp then Y (cast (eH.den e) b) else bo
theorem Pr {b:Q.den} {c:k.den} (a:xJ b k=Y c):n1 Q b k c:=by
 unfold xJ at a;split at a
 ·rename_i d;cases a;exact .same d (cast_heq _ _).symm
 grind
def Ao:(c:ai)->c.den->(b:ai)->bv b.den
 |.optr d,a,.ptr .eE e=>(xJ (τ':=d) a e).map Y
 |_,a,b=>xJ a b
theorem aaK {c:Q.den} {d:k.den} (a:Ao Q c k=Y d):n1 Q c k d:=by
 unfold Ao at a;split at a
 ·obtain⟨f,b,rfl⟩:=fB.1 a;simp only[xJ] at b;split at b
  ·rename_i e;cases b;exact .ptr e (cast_heq _ _).symm
  grind
 exact Pr a
def pT:ai->Value->bA
 |τ,.agg _=>o9 τ
 |_,.tuple _=>bq
 |τ,_=>!o9 τ
theorem pT.ok (a:pT k S=bp):cW k S.cells.toList=S:=by
 cases S<;>simp only[pT] at a<;>first
  |(cases a;done)
  |(rw[EH a];rfl)
  |(rw[tv] at a;rw[EG a];rfl)
def nu (
 h:bm (X×aD)) (f:ahb):aj->(a:ai)->bv a.den
 |.val _ g,a=>xJ g a
 |.df d,a=>bif pT a d then iQ a d.cells.toList else bo
 |.ref id c,a=>match eR id f with
  |true=>bo
  |false=>match aq h id with
   |none=>bo
   |some b=>match fk b.1 c with
    |none=>bo
    |some e=>match h4 b.1 b.2 c e with
     |none=>bo
     |some i=>Ao e i a
 |_,_=>bo
theorem FSq {h:k.den} (a:nu e f d k=Y h):x5 e f d ⟨k,h⟩:=by
 cases d with
 |val c b=>exact Pr a
 |df p=>
  simp only[nu] at a;cases i:pT k p with
  |false=>grind
  |true=>rw[i] at a;exact⟨a,pT.ok i⟩
 |ref id n=>
  simp only[nu] at a;split at a
  ·cases a
  rename_i j;split at a
  ·cases a
  rename_i o l;split at a
  ·cases a
  rename_i c q;split at a
  ·cases a
  rename_i b m;have:eR id f=bq/\∃g c b,aq e id=Y g/\eN g.1 g.2 n c b/\n1 c b k h:=⟨j,o,c,b,l,iR m,aaK a⟩;exact this
 |_=>cases a
def tZ (d:bm (X×aD)) (c:ahb):aj->(b:ai)->bv b.den
 |.hA a,.ptr .bh e=>bif oE e then(nu d c a e).map Y else bo
 |a,b=>nu d c a b
def sh (d:bm (X×aD)) (c:ahb):bm aj->(b:ai)->bv b.den
 |[],.nil=>Y ()
 |a::f,.pr e b=>bif oE e then(tZ d c a e).bind λh=>(sh d c f b).map λg=>(h,g) else bo
 |_,_=>bo
def ww (d:bm (X×aD)) (c:ahb):aj->(b:ai)->bv b.den
 |.hA (.eA f e),.ptr .bh (.fn g h)=>bif bI f g then(sh d c e h).map Y else bo
 |a,b=>tZ d c a b
def Lx {c:k.den} (a:tZ e f d k=Y c):oH e f d k c:=by
 unfold tZ at a;split at a
 ·rename_i i h;cases b:oE h with
  |false=>rw[b] at a;cases a
  |true=>
   rw[b,bG] at a;obtain⟨j,g,rfl⟩:=fB.1 a;exact .hA b (.base (FSq g))
 exact .base (FSq a)
def Lz {h:bm (X×aD)} {g:ahb}:∀{f:bm aj} {c:ai} {d:c.den},sh h g f c=Y d->vG h g f c d
 |[],c,d,b=>by
  cases c<;>simp only[sh] at b<;>try (cases b;done)
  exact .nil
 |a::f,c,d,b=>by
  cases c<;>simp only[sh] at b<;>try (cases b;done)
  rename_i c l;cases e:oE c with
  |false=>rw[e] at b;cases b
  |true=>
   rw[e,bG] at b;obtain⟨m,j,b⟩:=eO.1 b;obtain⟨k,i,rfl⟩:=fB.1 b;exact .cons e (Lx j) (Lz i)
def Tl {c:k.den} (a:ww e f d k=Y c):oH e f d k c:=by
 unfold ww at a;split at a
 ·rename_i h j i l;cases b:bI h i with
  |false=>rw[b] at a;cases a
  |true=>
   rw[b,bG] at a;obtain rfl:=fu b;obtain⟨m,g,rfl⟩:=fB.1 a;exact .hA bn (.eA (Lz g))
 exact Lx a
def o8 (b:bm (X×aD)) (a:ahb):(g:bm ai)->bm aj->bv (lD g)
 |[],[]=>Y ()
 |τ::d,c::as=>match ww b a c τ with
  |some f=>(o8 b a d as).map (λe=>(f,e))
  |none=>bo
 |_,_=>bo
def MZ {f:bm (X×aD)} {d:ahb}:∀{c:bm ai} {e:bm aj} {b:lD c},o8 f d c e=Y b->iB (λb g=>oH f d b g.1 g.2) e (iY c b)
 |[],[],_,_=>trivial
 |[],_::_,_,a=>by cases a
 |_::_,[],_,a=>by cases a
 |τ::k,j::as,b,a=>by
  simp only[o8] at a;split at a
  case h_2=>cases a
  rename_i m i;obtain⟨l,h,rfl⟩:=fB.1 a;exact⟨Tl i,MZ h⟩
def rH:bm aj->bm hq->ahb
 |.ref id []::as,.m _::a=>id::rH as a
 |.ref id []::as,.o _::a=>id::rH as a
 |.view id [] _ _::as,.w _::a=>id::rH as a
 |_::as,_::a=>rH as a
 |_,_=>[]
def s5:Value->bA
 |.slice bo 0 0=>bp
 |_=>bq
theorem s5.ok (a:s5 S=bp):S=.slice bo 0 0:=by grind [s5]
def Ae:(a:ai)->Value->bv a.den
 |.osl _,.slice bo 0 0=>Y []
 |_,_=>bo
theorem XQ {b:k.den} (a:Ae k S=Y b):S=.slice bo 0 0/\∃c,(⟨k,b⟩:aD)=⟨.osl c,[]⟩:=by
 unfold Ae at a;split at a
 ·simp_all
 grind
def fM (d:bm (X×aD)) (f:ahb):(t:bm hq)->bm aj->bv (hu t)
 |[],[]=>Y ()
 |.v g::b,p::as=>match nu d f p g with
  |some e=>(fM d f b as).map (λa=>(e,a))
  |none=>bo
 |.c r u::b,.eA q a::as=>bif bI q r then match o8 d f u a with
  |some e=>(fM d f b as).map (λa=>(e,a))
  |none=>bo else bo
 |.m g::b,.ref id []::as=>bif g.fY&&rK g then match aq d id with
  |some h=>match h2 g h.2 with
   |some e=>(fM d f b as).map (λa=>(e,a))
   |none=>bo
  |none=>bo else bo
 |.o g::b,.ref id []::as=>match aq d id with
  |some h=>match h2 g h.2 with
   |some e=>(fM d f b as).map (λa=>(e,a))
   |none=>bo
  |none=>bo
 |.n::b,.df i::as=>bif s5 i then(fM d f b as).map (λa=>((),a)) else bo
 |.s _ _::b,_::as=>(fM d f b as).map (λa=>((),a))
 |.o g::b,.df i::as=>match Ae g i with
  |some e=>(fM d f b as).map (λa=>(e,a))
  |none=>bo
 |.w l::b,.view id [] k j::as=>bif l.fY then(bif ca k j then match aq d id with
  |some h=>match h2 (.osl l) h.2 with
   |some e=>(fM d f b as).map (λa=>((e,k,j),a))
   |none=>bo
  |none=>bo else bo) else bo
 |_,_=>bo
def Bs {h:Type} (f:bm (X×aD)) (e:ahb) (av:aj) (c:ai) (d:c.den->bv h):bv h:=match av with
 |.ref id g=>match eR id e with
  |true=>bo
  |false=>match aq f id with
   |none=>bo
   |some a=>match fk a.1 g with
    |none=>bo
    |some i=>(h4 a.1 a.2 g i).bind λj=>match Ao i j c with
     |none=>bo
     |some b=>d b
 |av=>match nu f e av c with
  |none=>bo
  |some b=>d b
theorem SM {c:k.den->bv b}:Bs e f d k c=(nu e f d k).bind c:=by
 cases d with
 |ref id g=>
  grind [eR,aq,fk,h4,Ao,Bs,nu]
 |_=>
  simp only[Bs];split
  ·rename_i a;rw[a];rfl
  rename_i a;rw[a];rfl
def ki {p:Type} (e:bm (X×aD)) (g:ahb):(x:bm hq)->bm aj->(hu x->bv p)->bv p
 |[],[],a=>a ()
 |.v h::d,r::as,a=>Bs e g r h λf=>ki e g d as λb=>a (f,b)
 |.c u y::d,.eA t b::as,a=>bif bI t u then match o8 e g y b with
  |some f=>ki e g d as λb=>a (f,b)
  |none=>bo else bo
 |.m h::d,.ref id []::as,a=>bif h.fY&&rK h then match aq e id with
  |some i=>match h2 h i.2 with
   |some f=>ki e g d as λb=>a (f,b)
   |none=>bo
  |none=>bo else bo
 |.o h::d,.ref id []::as,a=>match aq e id with
  |some i=>match h2 h i.2 with
   |some f=>ki e g d as λb=>a (f,b)
   |none=>bo
  |none=>bo
 |.n::d,.df j::as,a=>bif s5 j then ki e g d as λb=>a ((),b) else bo
 |.s _ _::d,_::as,a=>ki e g d as λb=>a ((),b)
 |.o h::d,.df j::as,a=>match Ae h j with
  |some f=>ki e g d as λb=>a (f,b)
  |none=>bo
 |.w q::d,.view id [] l k::as,a=>bif q.fY then(bif ca l k then match aq e id with
  |some i=>match h2 (.osl q) i.2 with
   |some f=>ki e g d as λb=>a ((f,l,k),b)
   |none=>bo
  |none=>bo else bo) else bo
 |_,_,_=>bo
theorem nC {A:Type} {d:bm (X×aD)} {f:ahb}:∀{k:bm hq} {q:bm aj} {b:hu k->bv A},ki d f k q b=(fM d f k q).bind b
 |[],[],b=>rfl
 |[],_::_,b=>rfl
 |p::a,[],b=>by cases p<;>rfl
 |.v h::a,e::as,b=>by
  simp only[ki,fM,SM];cases nu d f e h with
  |none=>rfl
  |some g=>
   simp only[aC];rw[nC];cases fM d f a as<;>rfl
 |.c z B::a,e::as,b=>by
  cases e with
  |eA y i=>
   simp only[ki,fM];cases bI y z with
   |false=>rfl
   |true=>
    simp only[bG];cases o8 d f B i with
    |none=>rfl
    |some g=>
     simp only;rw[nC];cases fM d f a as<;>rfl
  |ref id p=>cases p<;>rfl
  |_=>rfl
 |.m h::a,e::as,b=>by
  cases e with
  |ref id p=>
   cases p with
   |cons=>rfl
   |nil=>
    simp only[ki,fM];cases(h.fY&&rK h) with
    |false=>rfl
    |true=>
     simp only[bG];cases aq d id with
     |none=>rfl
     |some j=>
      simp only;cases h2 h j.2 with
      |none=>rfl
      |some g=>
       simp only;rw[nC];cases fM d f a as<;>rfl
  |_=>rfl
 |.o h::a,e::as,b=>by
  cases e with
  |ref id p=>
   cases p with
   |cons=>rfl
   |nil=>
    simp only[ki,fM];cases aq d id with
    |none=>rfl
    |some j=>
     simp only;cases h2 h j.2 with
     |none=>rfl
     |some g=>
      simp only;rw[nC];cases fM d f a as<;>rfl
  |df l=>
   simp only[ki,fM];cases Ae h l with
   |none=>rfl
   |some g=>
    simp only;rw[nC];cases fM d f a as<;>rfl
  |_=>rfl
 |.w u::a,e::as,b=>by
  cases e with
  |view id p t r=>
   cases p with
   |cons=>rfl
   |nil=>
    simp only[ki,fM];cases u.fY with
    |false=>rfl
    |true=>
     simp only[bG];cases ca t r with
     |false=>rfl
     |true=>
     simp only[bG];cases aq d id with
     |none=>rfl
     |some j=>
      simp only;cases h2 (.osl u) j.2 with
      |none=>rfl
      |some g=>
       simp only;rw[nC];cases fM d f a as<;>rfl
  |ref id p=>cases p<;>rfl
  |_=>rfl
 |.n::a,e::as,b=>by
  cases e with
  |df l=>
   simp only[ki,fM];cases s5 l with
   |false=>rfl
   |true=>
    simp only[bG];rw[nC];cases fM d f a as<;>rfl
  |ref id p=>cases p<;>rfl
  |_=>rfl
 |.s C i::a,e::as,b=>by
  have x:∀g:bv (hu a),(g.bind λi=>b ((),i))=(g.map λi=>((),i)).bind b:=λg=>(by cases g<;>rfl);cases e with
  |ref id p=>cases p<;>(simp only[ki,fM];rw[nC];grind)
  |view id p t r=>cases p<;>(simp only[ki,fM];rw[nC];grind)
  |_=>simp only[ki,fM];rw[nC];exact x _
theorem JV {r:Type}:∀{ps:bm hq} {a:hu ps} {b:iS ps r} {avs:bm aj},gv avs (gK ps a b)=rH avs ps
 |[],a,b,avs=>by cases avs with|nil=>rfl|cons h c=>cases h<;>first|rfl|(rename_i id p;cases p<;>rfl)|(rename_i id p c g;cases p<;>rfl)
 |p::c,a,b,[]=>by cases p<;>rfl
 |p::c,a,b,f::avs=>by have d:=λa b=>JV (r:=r) (ps:=c) (a:=a) (b:=b) (avs:=avs);cases p<;>cases f<;>first|exact d _ _|(rename_i id e;cases e<;>simp only[gK,gv,rH,d];done)|(rename_i id e c g;cases e<;>simp only[gK,gv,rH,d])
theorem p5 {G:Type} {q:bm (X×aD)} {u:ahb}:∀{r:bm hq} {e:hu r} {g:iS r G} {h:bm aj},fM q u r h=Y e->oG q u h (gK r e g)
 |[],e,g,[],_=>trivial
 |[],e,g,_::_,a=>by cases a
 |p::i,e,g,[],a=>by cases p<;>cases a
 |.v t::i,e,g,d::h,a=>by
  simp only[fM] at a;split at a
  case h_2=>cases a
  rename_i l j;obtain⟨k,b,rfl⟩:=fB.1 a;exact⟨by cases d<;>exact FSq j,p5 b⟩
 |.c F J::i,e,g,d::h,a=>by
  cases d with
  |eA E k=>
   simp only[fM] at a;cases f:bI E F with
   |false=>grind
   |true=>
    rw[f] at a;obtain rfl:=fu f;simp only[bG] at a;split at a
    case h_2=>cases a
    rename_i l j;obtain⟨I,b,rfl⟩:=fB.1 a;exact⟨⟨bn,MZ j⟩,p5 b⟩
  |ref id p=>cases p<;>cases a
  |_=>cases a
 |.m t::i,e,g,d::h,a=>by
  cases d with
  |ref id p=>cases p with
   |cons=>cases a
   |nil=>
    simp only[fM] at a;cases f:(t.fY&&rK t) with
    |false=>grind
    |true=>
     rw[f] at a;simp only[cC] at f;simp only[bG] at a;split at a
     case h_2=>cases a
     rename_i B A;split at a
     case h_2=>cases a
     rename_i l j;obtain⟨k,b,rfl⟩:=fB.1 a;refine⟨⟨?_,f.1,f.2⟩,p5 b⟩;grind [kf]
  |_=>cases a
 |.o t::i,e,g,d::h,a=>by
  cases d with
  |ref id p=>cases p with
   |cons=>cases a
   |nil=>
    simp only[fM] at a;split at a
    case h_2=>cases a
    rename_i B A;split at a
    case h_2=>cases a
    rename_i l j;obtain⟨k,b,rfl⟩:=fB.1 a;refine⟨?_,p5 b⟩;show aq q id=Y _;grind [kf]
  |df C=>
   simp only[fM] at a;split at a
   case h_2=>cases a
   rename_i l j;obtain⟨k,b,rfl⟩:=fB.1 a;exact⟨XQ j,p5 b⟩
  |_=>cases a
 |.w H::i,e,g,d::h,a=>by
  cases d with
  |view id p y x=>cases p with
   |cons=>cases a
   |nil=>
    simp only[fM] at a;cases f:H.fY with
    |false=>grind
    |true=>
     rw[f] at a;simp only[bG] at a;cases z:ca y x with
     |false=>grind
     |true=>
     rw[z] at a;simp only[bG] at a;split at a
     case h_2=>cases a
     rename_i B A;split at a
     case h_2=>cases a
     rename_i l j;obtain⟨k,b,rfl⟩:=fB.1 a;refine⟨⟨?_,⟨bn,bn⟩,gV z,f⟩,p5 b⟩;grind [kf]
  |ref id p=>cases p<;>cases a
  |_=>cases a
 |.n::i,e,g,d::h,a=>by
  cases d with
  |df C=>
   simp only[fM] at a;cases f:s5 C with
   |false=>grind
   |true=>
    rw[f] at a;obtain⟨k,b,rfl⟩:=fB.1 a;exact⟨s5.ok f,p5 b⟩
  |ref id p=>cases p<;>cases a
  |_=>cases a
 |.s D k::i,e,g,d::h,a=>by
  have a:(fM q u i h).map (λl=>(((),l):hu (.s D k::i)))=Y e:=by
   cases d with
   |ref id p=>cases p<;>exact a
   |view id p y x=>cases p<;>exact a
   |_=>exact a
  obtain⟨l,b,rfl⟩:=fB.1 a;refine⟨?_,p5 b⟩;cases d with
  |ref id p=>cases p<;>trivial
  |view id p y x=>cases p<;>trivial
  |_=>trivial
end
section
def mF:(τ:ai)->τ.den->bm aZ->(b:ai)->b.den->bv τ.den
 |τ,_,[],_,a=>h2 τ a
 |.osl f,h,.idx g::c,b,a=>match h[g]? with
  |some k=>(mF f k c b a).map λe=>h.set g e
  |none=>bo
 |.optr f,d,.deref::c,b,a=>mF f d c b a
 |.st f,d,.unst::c,b,a=>mF f d c b a
 |.pr i _,d,.fst::c,b,a=>(mF i d.1 c b a).map λe=>(e,d.2)
 |.pr _ j,d,.snd::c,b,a=>(mF j d.2 c b a).map λe=>(d.1,e)
 |_,_,_,_,_=>bo
theorem act {b:k.den} {a:Q.den}:mF k b [] Q a=h2 k a:=by cases k<;>rfl
theorem e9.XC {d:k.den} {a:Q.den} {b:k.den} (c:h2 k a=Y b):e9 k d [] Q a b:=by cases kf c;cases k<;>exact⟨bn,bn⟩
theorem m6:∀{k:bm aZ} {τ:ai} {g:τ.den} {f:ai} {h:f.den} {j:τ.den},mF τ g k f h=Y j->e9 τ g k f h j
 |[],τ,g,f,h,j,c=>by grind [e9.XC,act]
 |s::k,τ,g,f,h,j,c=>by
  cases τ<;>cases s<;>simp only[mF] at c<;>try (cases c;done)
  case osl.idx t i=>
   split at c
   ·rename_i l m;obtain⟨d,e,rfl⟩:=fB.1 c;exact⟨l,d,m,m6 e,bn⟩
   grind
  case optr.deref t=>exact m6 (τ:=t) c
  case st.unst t=>exact m6 (τ:=t) c
  case pr.fst a b=>
   obtain⟨d,e,rfl⟩:=fB.1 c;exact⟨d,m6 e,bn⟩
  case pr.snd a b=>
   obtain⟨d,e,rfl⟩:=fB.1 c;exact⟨d,m6 e,bn⟩
def gy (a:Z):ag7:=if 0<=a then Y a.toNat else bo
theorem Xt {b:Z} (c:gy b=Y a):b=(a:Z):=by grind [gy]
def bj (b:X) (a:Z):ag7:=if 0<=a/\a.toNat<b then Y a.toNat else bo
theorem Nf {b:Z} (c:bj m b=Y a):b=(a:Z)/\a<m:=by grind [bj]
def cG (a:X):bv bt:=if a<=hD then Y () else bo
theorem xo {b:bt} (c:cG a=Y b):a<=hD:=by grind [cG]
def km (b:cx) (c a:Z):ag6:=if a≠0 then Y (b.wrap (c.tdiv a)) else bo
def i4 (b a:Z):ag6:=if a≠0 then Y (b.tmod a) else bo
def h6 (a:cx) (c b:Z):ag6:=if 0<=b then Y (a.wrap (c*2^min b.toNat a.bits)) else bo
def eM (b:cx) (c a:Z):ag6:=if 0<=a then Y (c.fdiv (2^min a.toNat b.bits)) else bo
def ey (a:cx) (b c:Z):Z:=a.wrap (ch a.bits b&&&ch a.bits c).toNat
def fN (a:cx) (b c:Z):Z:=a.wrap (ch a.bits b|||ch a.bits c).toNat
def ts (a:cx) (b c:Z):Z:=a.wrap (ch a.bits b^^^ch a.bits c).toNat
def Bq (a:cx) (b c:Z):Z:=a.wrap (ch a.bits b&&&~~~ch a.bits c).toNat
def wm (c:bv aj) (a:X):ag7:=
 match c with
 |none=>Y a
 |some (.val (.int _) b)=>gy b
 |some _=>bo
theorem BA {c:bv aj} (b:wm c a=Y m):sf c a m:=by
 unfold wm at b;unfold sf;split at b
 ·grind
 ·exact Xt b
 grind
def hb (b a c:X):bv bt:=if b<=a/\a<=c then Y () else bo
theorem NA {b:X} {c:bt} (d:hb m a b=Y c):m<=a/\a<=b:=by grind [hb]
def nL (_:X):bv bt:=Y ()
def fX (a b:Z):ag7:=if 0<=a/\a<=b/\b<=(hD:Z) then Y a.toNat else bo
open Classical in
def rv {b:Type} (c:X) (d a:bv b):bv b:=if c=0 then if d=a then a else bo else a
theorem Xz {d e:bv b} {c:b} (f:rv a d e=Y c):e=Y c/\(a=0->d=Y c):=by grind [absurd,rv]
def pR:ahc:=[0,1,28,2,29,14,24,3,30,22,20,15,25,17,4,8,31,27,13,23,21,19,16,7,26,12,18,6,11,5,10,9]
inductive Fx where
 |e4 (av:aj)
 |opt (α:Type) (o:bv α) (f:α->aj)
 |new (α:Type) (o:bv α) (t:α->aD) (d:X)
 |no
def kE (tt:bm (bF×ai)) (z:bm (X×ai)) (k:bm (X×aD)) (g:bM->aj) (w:X) (v:Op):Fx:=
 match v with
 |.binOp v _ b e _=>match g b,g e with
  |.val (.int c) b,.val (.int A) e=>if c=A then
   (match v with
   |.add=>.e4 (.val (.int c) (c.wrap (b+e)))
   |.sub=>.e4 (.val (.int c) (c.wrap (b-e)))
   |.mul=>.e4 (.val (.int c) (c.wrap (b*e)))
   |.quo=>.opt Z (km c b e) (.val (.int c))
   |.rem=>.opt Z (i4 b e) (.val (.int c))
   |.shl=>.opt Z (h6 c b e) (.val (.int c))
   |.shr=>.opt Z (eM c b e) (.val (.int c))
   |.and=>.e4 (.val (.int c) (ey c b e))
   |.or=>.e4 (.val (.int c) (fN c b e))
   |.xor=>.e4 (.val (.int c) (ts c b e))
   |.andNot=>.e4 (.val (.int c) (Bq c b e))
   |_=>.no) else
   (match v with
   |.shl=>.opt Z (h6 c b e) (.val (.int c))
   |.shr=>.opt Z (eM c b e) (.val (.int c))
   |_=>.no)
  |_,_=>.no
 |.unOp .neg _ b=>match g b with
  |.val (.int c) b=>.e4 (.val (.int c) (c.wrap (0-b)))
  |_=>.no
 |.convert t p b=>match aq tt t,aq tt p,g b with
  |some (.int _),Y (.int c),.val (.int _) b=>.e4 (.val (.int c) (c.wrap b))
  |_,_,_=>.no
 |.nilCheck b=>match g b with
  |.val (.ptr r a) b=>.opt a.den b λe=>.val (.ptr r a) (Y e)
  |_=>.no
 |.indexAddr h b q=>match gY tt h,g q with
  |some i,.val (.int _) q=>match g b with
   |.val (.a6 r a) j=>bif a9 i a then .opt a.den (al j q) λe=>.val (.ptr r a) (Y e) else .no
   |.ref id f=>match aq k id with
    |some d=>match fk d.1 f with
     |some (.osl a)=>bif a9 i a then .opt X ((h4 d.1 d.2 f (.osl a)).bind λj=>bj j.length q) λc=>.addr id (f++[.idx c]) else .no
     |_=>.no
    |none=>.no
   |.view id [] s u=>match aq k id with
    |some d=>match d.1 with
     |.osl a=>bif a9 i a then .opt X (bj (u-s) q) λc=>.addr id [.idx (s+c)] else .no
     |_=>.no
    |none=>.no
   |_=>.no
  |_,_=>.no
 |.load h b=>match aq tt h with
  |some i=>match g b with
   |.addr id f=>match aq k id with
    |some d=>match fk d.1 f with
     |some a=>bif a9 i a&&a.pure then .opt a.den (h4 d.1 d.2 f a) λe=>.val a e else .no
     |none=>.no
    |none=>.no
   |.ref id f=>match aq k id with
    |some d=>match fk d.1 f with
     |some (.optr a)=>bif a9 i a&&a.pure then .opt a.den (h4 d.1 d.2 (f++[.deref]) a) λe=>.val a e else .no
     |_=>.no
    |none=>.no
   |.val (.ptr _ a) b=>bif a9 i a then .opt a.den b λe=>u7 a e else .no
   |_=>.no
  |none=>.no
 |.fieldAddr h b m=>match lz tt h,g b with
  |some i,.val (.ptr r (.st a)) b=>bif a9 i a&&(fG a m).isSome then .opt a.den b λe=>(match q9 a e m with
   |some n=>.val (.ptr r n.1) (Y n.2)
   |none=>.dead) else .no
  |_,_=>.no
 |.slice h b s u bo=>match gY tt h with
  |some i=>match g b with
   |.val (.a6 r a) j=>bif a9 i a then
    .opt ep ((wm (s.map g) 0).bind λl=>(wm (u.map g) j.length).bind λp=>(hb l p j.length).map λ_=>(l,p)) (λn=>.val (.a6 r a) ((j.take n.2).drop n.1)) else .no
   |.ref id f=>match aq k id with
    |some d=>match fk d.1 f with
     |some (.osl a)=>bif a9 i a then
      .opt ep ((h4 d.1 d.2 f (.osl a)).bind λj=>(wm (s.map g) 0).bind λl=>(wm (u.map g) j.length).bind λp=>(hb l p j.length).bind λ_=>(nL j.length).map λ_=>(l,p)) (λn=>.view id f n.1 n.2) else .no
     |_=>.no
    |none=>.no
   |_=>.no
  |none=>.no
 |.makeSlice h l o=>match gY tt h,aq z w,aq k w with
  |some i,Y (.osl a),bo=>match mb a,g l,g o with
   |some y,.val (.int _) l,.val (.int _) o=>bif a9 i a&&b2 a.size 2000 then
    .new X (fX l o) (λm=>⟨.osl a,bJ m y⟩) w else .no
   |_,_,_=>.no
  |_,_,_=>.no
 |.index h b q=>match aq tt h,g b,g q with
  |some .str,.df (.string t),.val (.int _) m=>.opt Z (qo t m) (.val (.int .u8))
  |some .str,.val .str t,.val (.int _) m=>.opt Z (qo t m) (.val (.int .u8))
  |_,_,_=>.no
 |.lookup h b c B=>match k1 tt h,g b,g c with
  |some i,.ref id f,.val (.int .i64) c=>match aq k id with
   |some d=>match fk d.1 f with
    |some (.mp a)=>match mb a with
     |some y=>bif a9 i a then .opt (bv (bm (Z×a.den)×X)) (h4 d.1 d.2 f (.mp a)) λx=>DY a x y c B else .no
     |none=>.no
    |_=>.no
   |none=>.no
  |_,_,_=>.no
 |.call o=>match o.callee,o.args.toList,o.argTypes.toList with
  |.builtin .len,[b],[h]=>match gY tt h,g b with
   |some _,.ref id f=>match aq k id with
    |some d=>match fk d.1 f with
     |some (.osl a)=>.opt (bm a.den) (h4 d.1 d.2 f (.osl a)) λj=>.val (.int .i64) (j.length:Z)
     |_=>.no
    |none=>.no
   |none,.ref id f=>match k1 tt h,aq k id with
    |some _,Y d=>match fk d.1 f with
     |some (.mp a)=>.opt (bv (bm (Z×a.den)×X)) (h4 d.1 d.2 f (.mp a)) λx=>.val (.int .i64) (xw x)
     |_=>.no
    |_,_=>.no
   |_,_=>.no
  |_,_,_=>.no
 |_=>.no
theorem ML:∀{t:ai} {y:t.den} {b:X},(fG t b).isSome=bp->∃d,q9 t y b=Y d
 |.pr e c,y,0,_=>⟨_,bn⟩
 |.pr e c,y,b+1,a=>by
  simp only[fG] at a;split at a
  ·rename_i d f;exact ML (t:=c) (by grind)
  grind
 |.int _,_,_,a=>by cases a
 |.bool,_,_,a=>by cases a
 |.str,_,_,a=>by cases a
 |.a6 _ _,_,_,a=>by cases a
 |.ptr _ _,_,_,a=>by cases a
 |.osl _,_,_,a=>by cases a
 |.optr _,_,_,a=>by cases a
 |.st _,_,_,a=>by cases a
 |.nil,_,_,a=>by cases a
 |.eK,_,_,a=>by cases a
def Fx.K (g:Fx) (b:aj->bm (X×aD)->Prop):Prop:=
 match g with
 |.e4 e=>b e []
 |.opt _ c f=>∃a,c=Y a/\b (f a) []
 |.new _ c h d=>∃a,c=Y a/\b (.ref d []) [(d,h a)]
 |.no=>b5
theorem Ho {tt:bm (bF×ai)} {P:Op} {Q:aj->bm (X×aD)->Prop} (b:(kE tt l e V a P).K Q):(g3 tt l e V a P).K Q:=by
 unfold kE at b;split at b
 ·rename_i P r m j a0;simp only[g3];split at b
  case h_2=>exact b.elim
  rename_i q m T j h ad;simp only[h,ad];split at b
  ·rename_i x;subst x;split at b
   ·simp only[lW,cg];exact⟨_,⟨trivial,bn⟩,b⟩
   ·simp only[lW,cg];exact⟨_,⟨trivial,bn⟩,b⟩
   ·simp only[lW,cg];exact⟨_,⟨trivial,bn⟩,b⟩
   ·obtain⟨w,i,f⟩:=b;unfold km at i;split at i
    ·rename_i c;cases i;simp only[lW,cg];exact⟨_,⟨c,bn⟩,f⟩
    grind
   ·obtain⟨w,i,f⟩:=b;unfold i4 at i;split at i
    ·rename_i c;cases i;simp only[lW,cg];exact⟨_,⟨c,bn⟩,f⟩
    grind
   ·obtain⟨w,i,f⟩:=b;unfold h6 at i;split at i
    ·rename_i c;cases i;exact⟨_,⟨c,bn⟩,f⟩
    grind
   ·obtain⟨w,i,f⟩:=b;unfold eM at i;split at i
    ·rename_i c;cases i;exact⟨_,⟨c,bn⟩,f⟩
    grind
   ·simp only[lW,cg];exact⟨_,⟨trivial,bn⟩,b⟩
   ·simp only[lW,cg];exact⟨_,⟨trivial,bn⟩,b⟩
   ·simp only[lW,cg];exact⟨_,⟨trivial,bn⟩,b⟩
   ·simp only[lW,cg];exact⟨_,⟨trivial,bn⟩,b⟩
   exact b.elim
  split at b
  ·obtain⟨w,i,f⟩:=b;unfold h6 at i;split at i
   ·rename_i c;cases i;exact⟨_,⟨c,bn⟩,f⟩
   grind
  ·obtain⟨w,i,f⟩:=b;unfold eM at i;split at i
   ·rename_i c;cases i;exact⟨_,⟨c,bn⟩,f⟩
   grind
  exact b.elim
 ·rename_i r m;simp only[g3];split at b
  case h_2=>exact b.elim
  rename_i q m h;rw[h];exact⟨_,bn,b⟩
 ·rename_i U x m;simp only[g3,BG];split at b
  case h_2=>exact b.elim
  rename_i T q a4 m ao o h;rw[ao,o,h];exact⟨_,bn,b⟩
 ·rename_i m;simp only[g3,u3];split at b
  case h_2=>exact b.elim
  rename_i E g m h;rw[h];obtain⟨j,rfl,f⟩:=b;exact⟨j,bn,f⟩
 ·rename_i r m S;simp only[g3,uP];split at b
  case h_2=>exact b.elim
  rename_i k q S ao o;rw[ao,o];simp only;split at b
  ·rename_i E g D h;rw[h];simp only;cases d:a9 k g with
   |false=>rw[d] at b;exact b.elim
   |true=>
   rw[d] at b;obtain⟨j,c,f⟩:=b;exact⟨j,c,f⟩
  ·rename_i id B h;rw[h];simp only;split at b
   case h_2=>exact b.elim
   rename_i t n;rw[n];simp only;split at b
   case h_2=>exact b.elim
   rename_i g p;rw[p];simp only;cases d:a9 k g with
   |false=>rw[d] at b;exact b.elim
   |true=>
   rw[d] at b;obtain⟨j,c,f⟩:=b;obtain⟨D,N,c⟩:=eO.1 c;obtain⟨u,v⟩:=Nf c;exact⟨(D,j),⟨iR N,u,v⟩,f⟩
  ·rename_i id ap am h;rw[h];simp only;split at b
   case h_2=>exact b.elim
   rename_i t n;obtain⟨bx,m⟩:=t;rw[n];simp only at b|-;split at b
   case h_2=>exact b.elim
   rename_i g;simp only[fk];cases d:a9 k g with
   |false=>rw[d] at b;exact b.elim
   |true=>
   rw[d] at b;obtain⟨q,an,f⟩:=b;obtain⟨u,v⟩:=Nf an;exact⟨(m,q),⟨⟨bn,bn⟩,u,v⟩,f⟩
  exact b.elim
 ·rename_i r m;simp only[g3,uT];split at b
  case h_2=>exact b.elim
  rename_i k ao;rw[ao];simp only;split at b
  ·rename_i id B h;rw[h];simp only;split at b
   case h_2=>exact b.elim
   rename_i t n;rw[n];simp only;split at b
   case h_2=>exact b.elim
   rename_i g p;rw[p];simp only[vd];cases d:(a9 k g&&g.pure) with
   |false=>rw[d] at b;exact b.elim
   |true=>
   rw[d] at b;simp only[cC] at d;rw[d.1,d.2];obtain⟨j,c,f⟩:=b;exact⟨j,iR c,f⟩
  ·rename_i id B h;rw[h];simp only;split at b
   case h_2=>exact b.elim
   rename_i t n;rw[n];simp only;split at b
   case h_2=>exact b.elim
   rename_i g p;rw[p];simp only[vd];cases d:(a9 k g&&g.pure) with
   |false=>rw[d] at b;exact b.elim
   |true=>
   rw[d] at b;simp only[cC] at d;rw[d.1,d.2];obtain⟨j,c,f⟩:=b;exact⟨j,iR c,f⟩
  ·rename_i E g m h;rw[h];cases d:a9 k g with
   |false=>rw[d] at b;exact b.elim
   |true=>
   rw[d] at b;obtain⟨j,rfl,f⟩:=b;simp only[d,bG];exact f
  exact b.elim
 ·rename_i r m O;simp only[g3,uJ];split at b
  case h_2=>exact b.elim
  rename_i k E g m ao h;rw[ao,h];cases d:(a9 k g&&(fG g O).isSome) with
  |false=>rw[d] at b;exact b.elim
  |true=>
  rw[d] at b;simp only[cC] at d;obtain⟨j,rfl,f⟩:=b;obtain⟨bs,R⟩:=ML (y:=j) d.2;simp only[R] at f;simp only[d.1,bG,R];exact f
 ·rename_i r m ap am;simp only[g3,vp];split at b
  case h_2=>exact b.elim
  rename_i k ao;rw[ao];simp only;split at b
  ·rename_i E g D h;rw[h];simp only;cases d:a9 k g with
   |false=>rw[d] at b;exact b.elim
   |true=>
   rw[d] at b;obtain⟨j,c,f⟩:=b;obtain⟨A,L,c⟩:=eO.1 c;obtain⟨x,J,c⟩:=eO.1 c;obtain⟨av,M,rfl⟩:=fB.1 c;obtain⟨u,v⟩:=NA M;exact⟨(A,x),⟨BA L,BA J,u,v⟩,f⟩
  ·rename_i id B h;rw[h];simp only;split at b
   case h_2=>exact b.elim
   rename_i t n;rw[n];simp only;split at b
   case h_2=>exact b.elim
   rename_i g p;rw[p];simp only;cases d:a9 k g with
   |false=>rw[d] at b;exact b.elim
   |true=>
   rw[d] at b;obtain⟨j,c,f⟩:=b;obtain⟨D,N,c⟩:=eO.1 c;obtain⟨A,L,c⟩:=eO.1 c;obtain⟨x,J,c⟩:=eO.1 c;obtain⟨av,M,c⟩:=eO.1 c;obtain⟨fv,a3,rfl⟩:=fB.1 c;obtain⟨u,v⟩:=NA M;exact⟨(D,A,x),⟨iR N,BA L,BA J,u,v⟩,f⟩
  exact b.elim
 ·rename_i r A G;simp only[g3,uW];split at b
  case h_2=>exact b.elim
  rename_i k g ao o s;rw[ao,o,s];simp only;split at b
  case h_2=>exact b.elim
  rename_i w q A T G z C H;rw[z,C,H];simp only;cases d:(a9 k g&&b2 g.size 2000) with
  |false=>rw[d] at b;exact b.elim
  |true=>
  rw[d] at b;obtain⟨j,c,f⟩:=b;unfold fX at c;split at c
  ·rename_i I;cases c;exact⟨(A.toNat,G.toNat),⟨(alK I.1).symm,(alK (Int.le_trans I.1 I.2.1)).symm,aa,aa⟩,f⟩
  grind
 ·rename_i r m S;simp only[g3,EY];split at b
  ·rename_i U q O ao o s;rw[ao,o,s];obtain⟨F,d,f⟩:=b;exact⟨F,d,f⟩
  ·rename_i U q O ao o s;rw[ao,o,s];obtain⟨F,d,f⟩:=b;exact⟨F,d,f⟩
  exact b.elim
 ·rename_i r m q bl;simp only[g3,uU];split at b
  case h_2=>exact b.elim
  rename_i k id B q ao o s;rw[ao,o,s];simp only;split at b
  case h_2=>exact b.elim
  rename_i t n;rw[n];simp only;split at b
  case h_2=>exact b.elim
  rename_i g p;rw[p];simp only;split at b
  case h_2=>exact b.elim
  rename_i w i;rw[i];simp only;cases d:a9 k g with
  |false=>rw[d] at b;exact b.elim
  |true=>
  rw[d] at b;obtain⟨j,c,f⟩:=b;exact⟨j,iR c,f⟩
 ·rename_i G;simp only[g3];split at b
  ·rename_i m r ao o s;rw[ao,o,s];simp only;split at b
   ·rename_i k id B z C;rw[z,C];simp only[uS,z];split at b
    case h_2=>exact b.elim
    rename_i t n;rw[n];simp only;split at b
    case h_2=>exact b.elim
    rename_i g p;rw[p];obtain⟨j,c,f⟩:=b;exact⟨j,iR c,f⟩
   ·rename_i id B z C;rw[z,C];simp only[u0];split at b
    case h_2=>exact b.elim
    rename_i k t H n;rw[H,n];simp only;split at b
    case h_2=>exact b.elim
    rename_i g p;rw[p];obtain⟨j,c,f⟩:=b;exact⟨j,iR c,f⟩
   exact b.elim
  exact b.elim
 exact b.elim
def jt {e:Type} (c d:bm e) (a b:X):bm e:=c.take a++(d.take (b-a)++c.drop (a+min d.length (b-a)))
end
section
def zV:aj->bA
 |.val _ _=>bp
 |_=>bq
def H5:aj->bA
 |.val _ _=>bp
 |.eA _ a=>a.all zV
 |_=>bq
theorem H6 (b:H5 d=bp):∀id∈d.ids,False:=by
 intro id c;cases d with
 |val f e=>grind [bT]
 |eA g a=>
  have b:a.all zV=bp:=b;have:∀a:bm aj,a.all zV=bp->∀id∈aic a,False:=by
   intro a
   induction a with
   |nil=>grind [aic]
   |cons d a h=>
    intro b id c;simp only[rU,cC] at b;simp only[aic,h8] at c;rcases c with c|c
    ·cases d with
     |val f e=>grind [bT]
     |_=>cases b.1
    grind
  exact this a b id c
 |_=>cases b
def px (C:eZ) (c:bm (X×aj)):Prop:=
 (∀a,C.I0 a\/C.B a->a<C.w0.heap.size/\¬C.F0 a)/\
 ∀b∈c,b.1∈C.pin/\H5 b.2=bp/\cP (bf C.I0 C.B) C.w0 [] (λ_=>[]) (λ_=>[]) b.2 (C.vs b.1)
section
variable {E:fy} {C:eZ}
def px.nil (b:∀a,C.I0 a\/C.B a->a<C.w0.heap.size/\¬C.F0 a):px C []:=⟨b,λc b=>by cases b⟩
theorem VH (c b:bm (X×aj)) (a:X):gt (c++b) a=match aq c a with|some d=>d|none=>gt b a:=by grind [kH,aq,gt]
theorem z1 {e:Type}:∀{c:bm (X×e)} {b:X} {d:e},aq c b=Y d->(b,d)∈c
 |[],_,_,a=>by cases a
 |(f,v0)::c,b,d,a=>by
  rw[dg] at a;split at a
  ·grind
  exact g6 _ (z1 a)
def gN.kg (f:px C T) {j:ag3} (n:gN C i j v):gN C ⟨T++i.g,i.h⟩ j v:=by
 obtain⟨k,w,m,b⟩:=n;refine⟨k,w,m,{b with tmp:=λc=>?_}⟩;show cP _ _ _ _ _ (gt (T++i.g) c) _;rw[VH];split
 ·rename_i l s;obtain⟨o,p,d⟩:=f.2 _ (z1 s);have d:cP (bf C.I0 C.B) C.w0 [] (λ_=>[]) (λ_=>[]) l (C.vs c):=d;rw[b.pin c o];refine d.s2 (λt a e=>?_) (λid r=>(H6 p id r).elim);have q:C.I0 a\/C.B a:=m0 e;obtain⟨ax,u⟩:=f.1 a q;refine⟨?_,akF (b.frame a ax u)⟩;cases t
  ·exact b.i0 a e
  exact e.imp (b.i0 a) id
 exact b.tmp c
def J.kg {d:bm (X×aj)} (k:px C d) {c:cr} {a:aM} {b:b4->aM->Prop} (f:J E C c ⟨d++a.g,a.h⟩ b):J E C c a b:=
 λe l i j=>f e l (i.kg k) j
def sN (a:bm (X×aj)):ahb->bv (bm (X×aj))
 |[]=>Y []
 |k::c=>match gt a k with
  |.val g f=>(sN a c).map λb=>(k,.val g f)::b
  |.eA e d=>bif d.all zV then(sN a c).map λb=>(k,.eA e d)::b else bo
  |_=>bo
theorem HZ {h:bm (X×aj)}:∀{g:ahb} {d:bm (X×aj)},sN h g=Y d->∀b∈d,b.1∈g/\H5 b.2=bp/\gt h b.1=b.2
 |[],d,c,b,a=>by cases c;cases a
 |k::g,d,c,b,a=>by
  simp only[sN] at c;split at c
  ·rename_i q p f;obtain⟨n,e,rfl⟩:=fB.1 c;rcases fR.1 a with rfl|a
   ·exact⟨ng ..,bn,f⟩
   obtain⟨j,l⟩:=HZ e b a;grind
  ·rename_i o m f;cases i:m.all zV with
   |false=>grind
   |true=>
   rw[i] at c;obtain⟨n,e,rfl⟩:=fB.1 c;rcases fR.1 a with rfl|a
   ·exact⟨ng ..,i,f⟩
   obtain⟨j,l⟩:=HZ e b a;grind
  grind
theorem J.keep {K:cr} {H:bm (X×aj)} (r:px C T) (ap:sN i.g f=Y H) (l:∀k:eZ,k.n=C.n->k.pin=f++C.pin->px k (H++T)->(∀t,tP C t->tP k t)->(lg E C.I0 C.w0->lg E k.I0 k.w0)->J E k K i z):J E C K i z:=by
 rintro u I ⟨y,M,A,b⟩ ad
 let k:eZ:={I0:=y,B:=C.B,F0:=λa=>∃id d,aq i.h id=Y d/\a∈A id,w0:=I,n:=C.n,pin:=f++C.pin,vs:=λq=>u.tmps.getD q bW}
 have U:cM k i u.tmps I y M A:=
  {n:=b.n,i0:=λ_ l=>l,i1:=λ_ l=>.inl l,ib:=b.ib,tree:=λid d j=>⟨(b.tree id d j).1,(b.tree id d j).2.1,λa c=>⟨((b.tree id d j).2.2 a c).1,((b.tree id d j).2.2 a c).2.1,((b.tree id d j).2.2 a c).2.2.1,.inr ⟨id,d,j,c⟩⟩⟩,dis:=b.dis,tmp:=b.tmp,frame:=λ_ _ _=>rfl,evo:=λ_ _=>.refl _ _,size:=bd _,os:=rfl,tape:=rfl,output:=rfl,pin:=λq _=>rfl}
 have an:px k (H++T):=by
  refine⟨λa c=>⟨b.ib a c,?_⟩,λw p=>?_⟩
  ·rintro⟨id,d,j,V⟩;obtain⟨ax,x,_⟩:=(b.tree id d j).2.2 a V;grind
  rcases h8.1 p with p|p
  ·obtain⟨m,o,D⟩:=HZ ap w p;refine⟨h8.2 (.inl m),o,?_⟩;have:=b.tmp w.1;rw[D] at this;exact this.s2 (λL a s=>⟨s,cp _ _⟩) (λid F=>(H6 o id F).elim)
  obtain⟨m,o,D⟩:=r.2 w p;refine⟨h8.2 (.inr m),o,?_⟩;show cP _ _ _ _ _ _ (u.tmps.getD w.1 bW);rw[b.pin _ m];refine D.s2 (λL a s=>?_) (λid F=>(H6 o id F).elim);obtain⟨ax,x⟩:=r.1 a (m0 s);refine⟨?_,akF (b.frame a ax x)⟩;cases L
  ·exact b.i0 a s
  exact s.imp (b.i0 a) id
 have a0:∀t,tP C t->tP k t:=by
  rintro(_|⟨q,ds,d1⟩) av
  ·trivial
  obtain⟨N,O,a,a3,c1,ci,P,co,d2,cs⟩:=av;refine⟨lm _ N,λv G=>lm _ (O v G),a,a3,c1,(b.pin q N).trans ci,je P b.size,?_,?_,?_⟩
  ·rintro⟨id,d,j,c⟩;rcases((b.tree id d j).2.2 a c).2.2.2 with m|m
   ·omega
   grind
  ·have c:=b.frame a P co;grind [block,aio]
  rw[cs];exact ik λv G=>(b.pin v (O v G)).symm
 refine wp_mono (l k bn rfl an a0 (λS=>b.glob r.1 S) u I ⟨y,M,A,U⟩ ad) ?_;rintro dl c2 d3 ⟨cv,p,⟨Q,ce,R,e⟩,am⟩;have d0:∀a,k.F0 a->C.w0.heap.size<=a\/C.F0 a:=(by rintro a ⟨id,d,j,c⟩;exact((b.tree id d j).2.2 a c).2.2.2);refine⟨cv,p,⟨Q,ce,R,?_⟩,am⟩;refine{n:=e.n,i0:=λa c=>e.i0 a (b.i0 a c),i1:=λa c=>?_,ib:=e.ib,tree:=λid d j=>?_,dis:=e.dis,tmp:=e.tmp,frame:=λa m o=>?_,evo:=λa c=>(b.evo a c).trans (e.evo a (je c b.size)),size:=dh b.size e.size,os:=e.os.trans b.os,tape:=e.tape.trans b.tape,output:=e.output.trans b.output,pin:=λq r=>?_}
 ·rcases e.i1 a c with l|l|l
  ·exact b.i1 a l
  ·exact .inr (.inl (dh b.size l))
  grind
 ·obtain⟨ax,x,a4⟩:=e.tree id d j;refine⟨ax,x,λa c=>?_⟩;obtain⟨bl,bs,bx,aE⟩:=a4 a c;refine⟨bl,bs,bx,?_⟩;rcases aE with l|l
  ·exact .inl (dh b.size l)
  grind
 ·refine(e.frame a (je m b.size) ?_).trans (b.frame a m o);grind
 rw[e.pin q (h8.2 (.inr r))];exact b.pin q r
end
end
structure cI where
 d:bv (X×aj)
 S:ahb
 keep:bm (X×bm aZ)
 put:bm (X×aD)
variable{q:cI}
def nF (a:ahb) (c:bm (X×bm aZ)) (b:bm (X×aj)):bm (X×aj):=match a with
 |[]=>b
 |_=>ahw a c b
def q3 (a:ahb) (b:bm (X×aD)):bm (X×aD):=match a with
 |[]=>b
 |_=>del a b
def cI.app (a:cI) (b:aM):aM:=⟨match a.d with
 |some c=>c::nF a.S a.keep b.g
 |none=>nF a.S a.keep b.g,a.put++q3 a.S b.h⟩
theorem Wc (b:bm (X×bm aZ)) (a:aj):fH [] b a=a:=by
 have c:∀a,fd [] b a=a:=λa=>(by have:(a.ids.any λd=>eR d [])=bq:=(by grind [akG,eR]);simp only[fd,ahs,this,akH,bO]);cases a with
 |ff e=>grind [ahv,akI,fH]
 |_=>exact c _
theorem Wh (c:bm (X×bm aZ)):∀b:bm (X×aj),ahw [] c b=b
 |[]=>rfl
 |(k,a)::b=>by simp_all [h7,Wc,ahw]
theorem TR:∀a:bm (X×aD),del [] a=a
 |[]=>rfl
 |x::a=>by simp_all [nY,au,eR,del]
theorem sO (a:ahb) (c:bm (X×bm aZ)) (b:bm (X×aj)):nF a c b=ahw a c b:=by
 cases a
 ·exact(Wh c b).symm
 rfl
theorem w1 (a:ahb) (b:bm (X×aD)):q3 a b=del a b:=by
 cases a
 ·exact(TR b).symm
 rfl
def rG {k:Type} (tt:bm (bF×ai)) (f:bm (X×aD)) (m:bF) (q v:aj) (e:cI->bv k):bv k:=
 match ry f q with
 |none=>bo
 |some (
  id,p)=>match aq f id,aq tt m with
  |some a,Y o=>match fk a.1 p with
   |none=>bo
   |some b=>bif a9 o b then match v with
    |.ref c g=>match aq f c with
     |some l=>bif bI id c then bo else(h4 l.1 l.2 g b).bind λh=>(mF a.1 a.2 p b h).bind λd=>e ⟨bo,[id,c],[(id,p)],[(id,⟨a.1,d⟩)]⟩
     |none=>bo
    |.app c g i j n=>match h2 (τ:=.osl i) b j with
     |some _=>bif bI c id&&l7 g p then(h4 a.1 a.2 p (.osl i)).bind λr=>(mF a.1 a.2 p (.osl i) (r++j)).bind λd=>e ⟨bo,id::n,[(id,p)],[(id,⟨a.1,d⟩)]⟩ else bo
     |none=>bo
    |v=>match coe b v with
     |some h=>(mF a.1 a.2 p b h).bind λd=>e ⟨bo,[id],[(id,p)],[(id,⟨a.1,d⟩)]⟩
     |none=>bo
   else bo
  |_,_=>bo
theorem acU {q:b} {n:cI->bv b} {tt:bm (bF×ai)} (a:rG tt i.h c t d n=Y q) (k:∀o,n o=Y q->u (o.app i)):(EX tt i c t d).K u:=by
 unfold rG at a;unfold EX;split at a
 ·cases a
 rename_i id A v;rw[v];simp only;split at a
 case h_2=>cases a
 rename_i F B w r;obtain⟨O,M⟩:=F;rw[w,r];simp only at a|-;split at a
 ·cases a
 rename_i D z;rw[z];simp only;cases s:a9 B D with
 |false=>grind
 |true=>
 rw[s] at a;simp only[bG] at a|-;split at a
 ·rename_i l p;split at a
  case h_2=>cases a
  rename_i E x;obtain⟨P,J⟩:=E;cases e:bI id l with
  |true=>grind
  |false=>
  rw[e] at a;obtain⟨m,f,a⟩:=eO.1 a;obtain⟨j,g,a⟩:=eO.1 a;simp only[x,e,bO];exact⟨(m,j),⟨iR f,m6 g⟩,k _ a⟩
 ·rename_i l p N L I;split at a
  case h_2=>cases a
  rename_i m f;cases kf f;cases e:(bI l id&&l7 p A) with
  |false=>grind
  |true=>
  rw[e] at a;simp only[cC] at e;obtain⟨C,y,a⟩:=eO.1 a;obtain⟨j,g,a⟩:=eO.1 a;simp only[aip];exact⟨(C,j),⟨fu e.1,l7.ok e.2,iR y,m6 g⟩,k _ a⟩
 rename_i d G H;split at a
 case h_2=>cases a
 rename_i m f;obtain⟨j,g,a⟩:=eO.1 a;split
 ·grind
 ·grind
 rw[f];exact⟨j,m6 g,k _ a⟩
def ld (e:bm (X×aD)) (a:ai) (i:aj):bv (bm a.den):=
 match i with
 |.val (.a6 _ h) d=>h2 (τ:=.osl h) (.osl a) d
 |.df (.slice bo 0 0)=>Y []
 |.ref id c=>match aq e id with
  |some b=>bif a.pure then h4 b.1 b.2 c (.osl a) else bo
  |none=>bo
 |.view id c g f=>match aq e id with
  |some b=>bif a.pure then(h4 b.1 b.2 c (.osl a)).bind λd=>Y ((d.take f).drop g) else bo
  |none=>bo
 |_=>bo
def lV.Fr {c:ai} (e:lV c) (b:bm c.den):Prop:=
 match e with
 |.e4 f=>f=b
 |.part _ g d=>∃a,g a/\d a=b
 |.bad=>b5
theorem AX {f:bm k.den} (a:ld e k d=Y f):(rM e k d).Fr f:=by
 unfold ld at a;unfold rM;split at a
 ·rename_i p q h;cases kf a;simp only[aip];rfl
 ·cases a;rfl
 ·rename_i id j;split at a
  case h_2=>cases a
  rename_i g c;obtain⟨m,l⟩:=g;simp only[c];cases b:k.pure with
  |false=>grind
  |true=>rw[b] at a;exact⟨f,iR a,bn⟩
 ·rename_i id j o n;split at a
  case h_2=>cases a
  rename_i g c;obtain⟨m,l⟩:=g;simp only[c];cases b:k.pure with
  |false=>grind
  |true=>
   rw[b] at a;obtain⟨h,i,a⟩:=eO.1 a;cases a;exact⟨h,iR i,bn⟩
 grind
def lV.Fr.to {d:ai} {c:lV d} {a:bm d.den} (b:c.Fr a) {g:X->Prop} {f:bm d.den->aM} {e:aM->Prop} (h:g a.length) (i:e (f a)):(c.to g f).K e:=by
 cases c with
 |e4 l=>obtain rfl:l=a:=b;exact⟨(),h,i⟩
 |part n o m=>obtain⟨k,j,rfl⟩:=b;exact⟨k,⟨j,h⟩,i⟩
 |bad=>exact b.elim
def oX {n:Type} (tt:bm (bF×ai)) (p:bm (X×ai)) (d:bm (X×aD)) (b:X) (o:bF) (q g:aj) (f:cI->bv n):bv n:=
 match gY tt o with
 |none=>bo
 |some i=>
  match q with
  |.ref id []=>match aq d id with
   |some ⟨.osl a,e⟩=>bif a9 i a&&b2 a.size 1300 then
    match a.pure with
    |true=>(ld d a g).bind λc=>(cG (e.length+c.length)).bind λ_=>f ⟨Y (b,.ref b []),[id,b],[],[(b,⟨.osl a,e++c⟩)]⟩
    |false=>match g with
     |.ref k []=>match aq d k with
      |some r=>match h2 (.osl a) r.2 with
       |some c=>bif bI id k then bo else(cG (e.length+ahn (α:=a.den) c)).bind λ_=>f ⟨Y (b,.ref b []),[id,k,b],[],[(b,⟨.osl a,List.append (α:=a.den) e c⟩)]⟩
       |none=>bo
      |none=>bo
     |_=>bo
    else bo
   |_=>bo
  |.ref id h=>match aq d id,aq d b with
   |some j,bo=>match fk j.1 h with
    |some (.osl a)=>bif a9 i a&&b2 a.size 1300&&a.kK then
     (h4 j.1 j.2 h (.osl a)).bind λe=>(ld d a g).bind λc=>(cG (ahn (α:=a.den) e+c.length)).bind λ_=>
      f ⟨Y (b,.app id h a c [b]),[id],[(id,h),(id,[])],[(b,⟨.eK,()⟩),(id,j)]⟩
     else bo
    |_=>bo
   |_,_=>bo
  |.view id [] m l=>match aq d id with
   |some ⟨.osl a,e⟩=>bif a9 i a&&b2 a.size 1300 then
    (ld d a g).bind λc=>(cG (ahn (α:=a.den) ((e.take l).drop m)+c.length)).bind λ_=>f ⟨Y (b,.ref b []),[id,b],[],[(b,⟨.osl a,(e.take l).drop m++c⟩)]⟩
    else bo
   |_=>bo
  |.df (.slice bo 0 0)=>match aq p b with
   |some (.osl a)=>bif a9 i a&&b2 a.size 1300 then
    (ld d a g).bind λc=>(cG c.length).bind λ_=>f ⟨Y (b,.ref b []),[b],[],[(b,⟨.osl a,c⟩)]⟩
    else bo
   |_=>bo
  |_=>bo
theorem SF {A:b} {w:cI->bv b} {tt:bm (bF×ai)} (e:oX tt l i.h a c d t w=Y A) (m:∀x,w x=Y A->u (x.app i)):(Br tt l i a c d t).K u:=by
 unfold oX at e;unfold Br;split at e
 ·cases e
 rename_i s F;rw[F];simp only;split at e
 ·rename_i id;simp only;split at e
  case h_2=>cases e
  rename_i j v n;rw[n];simp only;cases k:(a9 s j&&b2 j.size 1300) with
  |false=>grind
  |true=>
  rw[k] at e;simp only[bG] at e|-;split at e
  ·rename_i q;rw[q];obtain⟨p,f,e⟩:=eO.1 e;obtain⟨_,g,e⟩:=eO.1 e;exact(AX f).to (xo g) (m _ e)
  rename_i q;rw[q];split at e
  case h_2=>cases e
  rename_i H;split at e
  case h_2=>cases e
  rename_i M E;obtain⟨V,R⟩:=M;split at e
  case h_2=>cases e
  rename_i p f;cases kf f;cases y:bI id H with
  |true=>grind
  |false=>
  rw[y] at e;obtain⟨_,g,e⟩:=eO.1 e;simp only[E,aip,y,bO];exact⟨(),xo g,m _ e⟩
 ·rename_i id z q;split at e
  case h_2=>cases e
  rename_i L n D;obtain⟨U,S⟩:=L;simp only at e;split at e
  case h_2=>cases e
  rename_i j G;cases k:(a9 s j&&b2 j.size 1300&&j.kK) with
  |false=>grind
  |true=>
  rw[k] at e;obtain⟨v,r,e⟩:=eO.1 e;obtain⟨p,f,e⟩:=eO.1 e;obtain⟨_,g,e⟩:=eO.1 e;have g:=xo g;have f:=AX f;have r:=iR r;cases z with
  |nil=>grind
  |cons Q z=>
  simp only[n,D,G,k,bG];split
  ·rename_i J o;rw[o] at f;obtain rfl:J=p:=f;exact⟨v,⟨r,g⟩,m _ e⟩
  ·rename_i T ad N o;rw[o] at f;obtain⟨I,B,rfl⟩:=f;exact⟨(v,I),⟨r,B,g⟩,m _ e⟩
  rename_i o;rw[o] at f;exact f.elim
 ·rename_i id P O;simp only;split at e
  case h_2=>cases e
  rename_i j v n;rw[n];simp only;cases k:(a9 s j&&b2 j.size 1300) with
  |false=>grind
  |true=>
  rw[k] at e;simp only[bG] at e|-;obtain⟨p,f,e⟩:=eO.1 e;obtain⟨_,g,e⟩:=eO.1 e;exact(AX f).to (xo g) (m _ e)
 ·simp only;split at e
  case h_2=>cases e
  rename_i j C;rw[C];simp only;cases k:(a9 s j&&b2 j.size 1300) with
  |false=>grind
  |true=>
  rw[k] at e;simp only[bG] at e|-;obtain⟨p,f,e⟩:=eO.1 e;obtain⟨_,g,e⟩:=eO.1 e;exact(AX f).to (xo g) (m _ e)
 grind
def pO (d:bm (X×ai)) (c:bm (X×aD)) (a:X) (h:aj):bv cI:=
 match h with
 |.ref id []=>match aq c id with
  |some b=>Y ⟨Y (a,.ref a []),[id,a],[],[(a,b)]⟩
  |none=>bo
 |.ref id g=>bif bI id a then bo else Y ⟨Y (a,.ref id g),[a],[],[]⟩
 |.view id [] f e=>match aq c id with
  |some ⟨.osl b,i⟩=>Y ⟨Y (a,.ref a []),[id,a],[],[(a,⟨.osl b,(i.take e).drop f⟩)]⟩
  |_=>bo
 |.df (.slice bo 0 0)=>match aq d a with
  |some (.osl b)=>Y ⟨Y (a,.ref a []),[a],[],[(a,⟨.osl b,[]⟩)]⟩
  |_=>bo
 |_=>bo
theorem SQ (b:pO l i.h a d=Y q) (e:u (q.app i)):(Bt l i a d).K u:=by
 unfold pO at b;unfold Bt;split at b
 ·split at b
  ·rename_i j c;cases b;simp only[c];exact e
  grind
 ·rename_i id g k;cases f:bI id a with
  |true=>grind
  |false=>
  rw[f] at b;cases b;cases g with
  |nil=>grind
  |cons m g=>simp only[f,bO];exact e
 ·split at b
  ·rename_i j n c;cases b;simp only[c];exact e
  grind
 ·split at b
  ·rename_i j c;cases b;simp only[c];exact e
  grind
 grind
section
section
variable {E:fy} {C:eZ} {st:aM} {a:Act} {w w':bD} {I:X->Prop} {rt:X->ag5} {fp:X->ahb} {o:bQ} {Q:aM->Prop}
def e0.own {S:ahb} {t:aD} {cs:ag5} {f:ahb} {v:Value} {next:Act->bD->Prop} {u:b4->Act->bD->Prop} (A:o.dst=Y m) (F:C.ok m) (l:cM C st a.tmps w I rt fp) (J:∀r k w',Q r->k.defers=a.defers->gN C r k.tmps w'->next k w') (D:m∈S\/aq st.h m=bo) (M:(bL a.eval o).run E.P w=.ok (.value v) w') (c:hn w w') (N:v=cW t.1 cs) (L:aS (bf I C.B) w' t.1 cs t.2 f) (G:f.Nodup) (i:∀b∈f,(w.heap.size<=b/\b<w'.heap.size)\/∃q∈S,∃R,aq st.h q=Y R/\b∈fp q) (K:Q ⟨(m,.ref m [])::ahw S [] st.g,(m,t)::del S st.h⟩):o.wp E.P a w next u:=by
 have j:=l.eC (nk.one (st:=st) (C:=C) (rt:=rt) (w':=w') (I':=I) (S:=S) (d:=m) (t:=t) (cs:=cs) (f:=f) D c.size c.os c.tape c.output (λb i _=>c.heap b i) (λb i=>(akF (c.heap b i)).2) (λ_ e=>e) (λ_ e=>.inl e) L G (λb z=>by
  rcases i b z with⟨x,y⟩|⟨p,H,s,j,n⟩
  ·exact⟨λe=>by have:=l.ib b (.inl e);omega,y,.inl x⟩
  obtain⟨ax,T,O,U⟩:=(l.tree p s j).2.2 b n;exact⟨ax,je O c.size,.inr ⟨p,H,s,j,n⟩⟩))
 unfold ahp;rw[M];show next (a.put o.dst v) w'
 rw[A];refine J _ _ _ K bn ⟨_,_,_,j.put F (av:=.ref m []) ?_⟩;rw[N];refine .ref (t:=t) (loc:=bo) (by rw[kH,dg,au bn];rfl) ?_;rw[D4];exact aiL
def xI (e:bm (X×aD)) (a:ai):aj->bv (aD×ahb)
 |.val d b=>bif a9 a d then Y (⟨d,b⟩,[]) else bo
 |.df f=>match iQ a f.cells.toList with
  |some b=>Y (⟨a,b⟩,[])
  |none=>bo
 |.ref id []=>match aq e id with
  |some c=>bif a9 a c.1 then Y (c,[id]) else bo
  |none=>bo
 |_=>bo
theorem Pq (l:∀id t,aq e id=Y t->aS U w t.1 (rt id) t.2 (fp id)) {a:ai} (i:fi p a c) (h:cP U w e rt fp d S) {t:aD} {ids:ahb} (b:xI e a d=Y (t,ids)):aS U w t.1 S.cells.toList t.2 (ids.map fp).flatten/\t.1.size=a.size/\∀id∈ids,∃o,aq e id=Y o:=by
 unfold xI at b;split at b
 ·rename_i r q;cases f:a9 a r with
  |false=>grind
  |true=>
   rw[f] at b;cases b;cases h with|val g=>
   rw[ow (i.lay f) g.len g.one];grind [akJ]
 ·rename_i u;split at b
  ·rename_i q s;cases b;cases h;grind [pS]
  grind
 ·rename_i id;split at b
  ·rename_i n j;cases f:a9 a n.1 with
   |false=>grind
   |true=>
    rw[f] at b;cases b;cases h with|ref k m=>
    rw[j] at k;cases k;obtain⟨rfl,rfl,rfl⟩:=ahI.1 m;have g:=l id _ j;rw[ow (i.lay f) g.len g.one];grind [ahk,akJ]
  grind
 grind
def m1 (e:bm (X×aD)) (d:bM->aj) (g:bm (X×bM)):ai->X->bv (aD×ahb)
 |.pr a h,f=>
  match(match l8 g f with
   |none=>match mb a with
    |some i=>Y ((⟨a,i⟩:aD),([]:ahb))
    |none=>bo
   |some b=>xI e a (d b)),m1 e d g h (f+1) with
  |some b,Y c=>Y (⟨.pr b.1.1 c.1.1,(b.1.2,c.1.2)⟩,b.2++c.2)
  |_,_=>bo
 |.nil,_=>Y (⟨.nil,()⟩,[])
 |_,_=>bo
theorem N7 {p:b0} {g:eD->X->Prop} {b:bm (X×aD)} (z:∀id t,aq b id=Y t->aS g w t.1 (rt id) t.2 (fp id)) {m:bM->aj} {h:bM->Value} (y:∀c,cP g w b rt fp (m c) (h c)) {parts:bm (X×bM)} {cells:ag5}:∀{u:ai} {n:X} {r:bm ahC} {off:X} {zs:ag5} {t:aD} {ids:ahb},iI p u r off zs->m1 b m parts u n=Y (t,ids)->cells.length=off+u.size->(∀d k e,fG u d=Y (k,e)->(∀c,l8 parts (n+d)=Y c->(h c).cells.size=e.size/\(cells.drop (off+fx u d)).take e.size=(h c).cells.toList)/\(l8 parts (n+d)=bo->(cells.drop (off+fx u d)).take e.size=(zs.drop (fx u d)).take e.size))->aS g w t.1 (cells.drop off) t.2 (ids.map fp).flatten/\t.1.size=u.size/\∀id∈ids,∃u,aq b id=Y u
 |.pr a q,n,E::O,off,zs,t,ids,o,f,A,i=>by
  simp only[m1] at f;split at f
  case h_2=>cases f
  rename_i c l j C;cases f;obtain⟨F,s,G,⟨K,R,ax,M,N⟩,v⟩:=o;have x:=i 0 _ a bn;simp only[mQ,fx,lj] at x;have H:aS g w c.1.1 ((cells.drop off).take a.size) c.1.2 (c.2.map fp).flatten/\c.1.1.size=a.size/\∀id∈c.2,∃u,aq b id=Y u:=by
   split at j
   ·rename_i J;split at j
    ·rename_i S D;cases j;obtain⟨L,T,P,Q,_,aE⟩:=vC s D;grind
    grind
   grind [Pq]
  have I:=N7 z y (parts:=parts) (cells:=cells) (u:=q) (n:=n+1) (off:=off+a.size) (zs:=zs.drop a.size) (t:=l.1) (ids:=l.2) v C (by grind [ahE]) (by
   intro d k e B;have:=i (d+1) (.snd::k) e (by simp[fG,B]);grind [ai1,fx])
  refine⟨⟨(c.2.map fp).flatten,(l.2.map fp).flatten,ac,?_,?_⟩,by grind [ahE],?_⟩
  ·grind
  ·simp_all
  grind
 |.nil,n,[],off,zs,t,ids,o,f,A,i=>by cases f;exact⟨⟨bn,by grind [List.drop_eq_nil_iff,ahE]⟩,bn,ac⟩
 |.pr _ _,_,[],_,_,_,_,b,_,_,_=>b.elim
 |.nil,_,_::_,_,_,_,_,b,_,_,_=>b.elim
 |.int _,_,_,_,_,_,_,b,_,_,_=>by cases b
 |.bool,_,_,_,_,_,_,b,_,_,_=>by cases b
 |.str,_,_,_,_,_,_,b,_,_,_=>by cases b
 |.a6 _ _,_,_,_,_,_,_,b,_,_,_=>by cases b
 |.osl _,_,_,_,_,_,_,b,_,_,_=>by cases b
 |.ptr _ _,_,_,_,_,_,_,b,_,_,_=>by cases b
 |.optr _,_,_,_,_,_,_,b,_,_,_=>by cases b
 |.st _,_,_,_,_,_,_,b,_,_,_=>by cases b
 |.eK,_,_,_,_,_,_,b,_,_,_=>by cases b
theorem N8 {z:b0} {h:eD->X->Prop} {b:bm (X×aD)} (l:∀id t,aq b id=Y t->aS h w t.1 (rt id) t.2 (fp id)) {j:bM->aj} {i:bM->Value} (k:∀e,cP h w b rt fp (j e) (i e)) {q:bm (X×bM)}:∀{u:ai} {n:X} {B:bm ahC} {p:X} {y:ag5} {t:aD} {ids:ahb},iI z u B p y->m1 b j q u n=Y (t,ids)->∀d s g,fG u d=Y (s,g)->∀e,l8 q (n+d)=Y e->(i e).cells.size=g.size
 |.pr a A,n,I::P,p,y,t,ids,E,f,d,s,g,c,e,m=>by
  simp only[m1] at f;split at f
  case h_2=>cases f
  rename_i v x o G;obtain⟨J,C,K,⟨L,Q,ax,N,O⟩,D⟩:=E;cases d with
  |zero=>
   simp only[fG,eU,im] at c;obtain⟨_,rfl⟩:=c;rw[mQ] at m;rw[m] at o;obtain⟨H,M,_⟩:=Pq (t:=v.1) (ids:=v.2) l C (k e) o;have:=H.len;grind
  |succ d=>
   simp only[fG] at c;split at c
   ·rename_i r F;simp only[eU,im] at c;obtain⟨_,rfl⟩:=c;exact N8 l k (u:=A) (n:=n+1) (t:=x.1) (ids:=x.2) D G d r.1 r.2 F e (by rwa[(aa:n+1+d=n+(d+1))])
   grind
 |.pr _ _,_,[],_,_,_,_,b,_,_,_,_,_,_,_=>b.elim
 |.nil,_,_,_,_,_,_,_,_,_,_,_,c,_,_=>by cases c
 |.int _,_,_,_,_,_,_,b,_,_,_,_,_,_,_=>by cases b
 |.bool,_,_,_,_,_,_,b,_,_,_,_,_,_,_=>by cases b
 |.str,_,_,_,_,_,_,b,_,_,_,_,_,_,_=>by cases b
 |.a6 _ _,_,_,_,_,_,_,b,_,_,_,_,_,_,_=>by cases b
 |.osl _,_,_,_,_,_,_,b,_,_,_,_,_,_,_=>by cases b
 |.ptr _ _,_,_,_,_,_,_,b,_,_,_,_,_,_,_=>by cases b
 |.optr _,_,_,_,_,_,_,b,_,_,_,_,_,_,_=>by cases b
 |.st _,_,_,_,_,_,_,b,_,_,_,_,_,_,_=>by cases b
 |.eK,_,_,_,_,_,_,b,_,_,_,_,_,_,_=>by cases b
theorem Tf (av:o.op=.build c s) {J:ai} (D:lz E.tt c=Y J) (d0:a9 J k=bp\/J=k) (R:mA s.toList 0=bp) (A:∀d∈s.toList,ca d.1 (gL k)=bp) (O:∀e l b,fG k e=Y (l,b)->∀f,l8 s.toList e=Y f->(a.eval f).cells.size=b.size):∃h g p,iI E.P k h 0 g/\(bL a.eval o).run E.P w=.ok (.value (.agg p)) w/\p.toList.length=k.size/\(∀e l b,fG k e=Y (l,b)->(∀f,l8 s.toList (0+e)=Y f->(a.eval f).cells.size=b.size/\(p.toList.drop (0+fx k e)).take b.size=(a.eval f).cells.toList)/\(l8 s.toList (0+e)=bo->(p.toList.drop (0+fx k e)).take b.size=(g.drop (fx k e)).take b.size)):=by
 obtain⟨m,h,g,S,c1,T,U,q,c2⟩:∃m h g,E.P.info? c=some m/\m.size=k.size/\m.zero=some (.agg g)/\E.P.underlying c=some (.struct h)/\iI E.P k h.toList 0 g.toList/\g.size=k.size:=by
  unfold lz at D;split at D
  ·rename_i el ad;cases D;obtain⟨_,m,h,g,ax,d2,_,d3,d4,d5,d6⟩:=E.ok c _ ad;grind [akJ,iI.lay]
  grind
 have F:=run_places (P:=E.P) w k h.toList 0 g.toList q;simp only[mS] at F;generalize ds:((bH (gL k)).map λn=>(fx k n,match fG k n with|some d=>d.2.size|none=>0))=H at F;have v:∀n l b,fG k n=Y (l,b)->n<gL k->H.toArray[n]?=Y (fx k n,b.size):=(by grind);obtain⟨p,ce,d7,ci,aE⟩:=zJ (λm=>H.toArray[m]?) (s.toList.map λd=>(d.1,a.eval d.2)) g (by
  intro d x;obtain⟨j,B,rfl⟩:=eP.1 x;have t:j.1<gL k:=gV (A j B);obtain⟨l,b,i⟩:=ru q j.1 t;refine⟨_,_,v _ _ _ i t,O _ _ _ i j.2 ?_,by simp_all [w8]⟩;grind [HS]) (by
  rw[oM];refine(HT R).imp_of_mem ?_;intro d I x a4 t bx co d1 d8 ao L;have z:d.1<gL k:=gV (A d x);have Q:I.1<gL k:=gV (A I a4);obtain⟨cs,cv,r⟩:=ru q d.1 z;obtain⟨d9,ek,N⟩:=ru q I.1 Q;rw[v _ _ _ r z] at ao;rw[v _ _ _ N Q] at L;cases ao;cases L;exact .inl (uK r N t))
 have bl:p.toList.length=k.size:=(by grind);refine⟨h.toList,g.toList,p,q,?_,bl,?_⟩
 ·have a3:(ajK (λf=>(f.fst,a.eval f.snd)) s).toList=s.toList.map λd=>(d.1,a.eval d.2):=ac;have a0:(h.mapM λM=>do aim (M.offset,<-ah1 M.type):Sem (bU ep)).run E.P w=.ok H.toArray w:=by
   rw[aku,Sem.run_map,F];rfl
  have G:(ahu c).run E.P w=.ok (.agg g) w:=(by simp[ahu,ahL,S,T]);simp only[bL,av,Instr.build,bY,G,b7 U,b1,a0,a3,Value.cells,ce];rfl
 intro e l b i;have am:e<gL k:=Hy i;simp only[mS];have dl:=w8 i;refine⟨λf C=>?_,λC=>?_⟩
 ·have an:=zZ C;have G:=O e l b i f C;refine⟨G,?_⟩;apply hQ;intro y;rcases cS y b.size with u|u
  ·obtain⟨K,bs⟩:∃K,(a.eval f).cells[y]?=some K:=⟨_,AY aa⟩;have:=aE (e,a.eval f) (eP.2 ⟨(e,f),an,bn⟩) _ _ (v _ _ _ i am) y K bs;grind
  grind
 apply hQ;intro y;rcases cS y b.size with u|u
 ·rw[tH u,tH u,pD,pD];simp only[AZ];refine ci _ ?_;intro d x bx co ao;obtain⟨j,B,rfl⟩:=eP.1 x;have ap:=If C j B;have z:j.1<gL k:=gV (A j B);obtain⟨cs,cv,r⟩:=ru q j.1 z;rw[v _ _ _ r z] at ao;cases ao;rcases Nat.lt_or_gt_of_ne ap with t|V
  ·have:=uK r i t;omega
  have:=uK i r V;omega
 grind
theorem cM.HB {t:ag3} (d:cM C st t w I rt fp):∀{a:ahb},a.Nodup->(∀id∈a,∃b,aq st.h id=Y b)->(a.map fp).flatten.Nodup
 |[],_,_=>by simp
 |i::a,r,e=>by obtain⟨k,l⟩:=jZ.1 r;obtain⟨b,f⟩:=e i ac;simp only[h7,lQ];refine jY.2 ⟨(d.tree i b f).2.1,cM.HB d l (λid x=>e id (by grind)),λj m v o c=>?_⟩;subst c;obtain⟨y,q,n⟩:=lS.1 o;obtain⟨g,p,rfl⟩:=eP.1 q;obtain⟨u,s⟩:=e g (by grind);exact d.dis i g b u f s (λc=>k (c▸p)) j m n
theorem W7 (a:m∈(f.map fp).flatten):∃id∈f,m∈fp id:=by grind
def se {k:Type} (tt:bm (bF×ai)) (m:bm (X×ai)) (e:bm (X×aD)) (h:bM->aj) (a:X) (l:bF) (c:bm (X×bM)) (g:cI->bv k):bv k:=
 match lz tt l with
 |none=>bo
 |some f=>match aq m a with
  |some (.st j)=>bif a9 f j&&(mA c 0&&c.all (λi=>ca i.1 (gL j))) then match aq e a,m1 e h c j 0 with
   |none,Y (b,d)=>bif jz d then g ⟨Y (a,.ref a []),d,[],[(a,⟨.st b.1,b.2⟩)]⟩ else bo
   |_,_=>bo
   else bo
  |_=>bif mA c 0&&c.all (λi=>ca i.1 (gL f)) then match qb h c f 0 with
   |some b=>g ⟨Y (a,.val (.st b.1) b.2),[],[],[]⟩
   |none=>match aq e a,m1 e h c f 0 with
    |none,Y (b,d)=>bif jz d then g ⟨Y (a,.ref a []),d,[],[(a,⟨.st b.1,b.2⟩)]⟩ else bo
    |_,_=>bo
   else bo
theorem Lr {F:b} {u:cI->bv b} (U:o.op=.build c s) (O:o.dst=Y m) (P:C.ok m) {r:ai} (y:lz E.tt c=Y r) (D:a9 r k=bp\/r=k) (q:(mA s.toList 0&&s.toList.all (λp=>ca p.1 (gL k)))=bp) (i:(match aq st.h m,m1 st.h (aU st.g) s.toList k 0 with
  |none,Y (d,e)=>bif jz e then u ⟨Y (m,.ref m []),e,[],[(m,⟨.st d.1,d.2⟩)]⟩ else bo
  |_,_=>bo)=Y F)
 (V:∀v,u v=Y F->Q (v.app st)):e0 E C o st Q:=by
 split at i
 case h_2=>cases i
 rename_i d e R n;cases A:jz e with
 |false=>grind
 |true=>
 rw[A] at i;simp only[cC,g0] at q;obtain⟨H,J⟩:=q;rintro a w ⟨I,rt,fp,j⟩ next a3 T
 have z:∀id d,aq st.h id=Y d->aS (bf I C.B) w d.1 (rt id) d.2 (fp id):=λid d n=>(j.tree id d n).1;obtain⟨K,av,G,M,ad,bx,N⟩:=Tf (a:=a) (w:=w) U y D H J (by
  obtain⟨K,av,_,p⟩:=lz.ok y;intro an ap a0 am l bs;exact N8 z (λl=>j.aU l) (D.elim (λi=>iI.lay i p) (λi=>i▸p)) n an ap a0 am l (by rwa[mS]))
 obtain⟨x,bl,L⟩:=N7 z (λl=>j.aU l) (cells:=G.toList) M n aa N;rw[lj] at x;refine e0.own (S:=e) (t:=⟨.st d.1,d.2⟩) (cs:=G.toList) (f:=(e.map fp).flatten) O P j T (.inr R) ad (hn.refl w) rfl x (j.HB (jz.ok A) L) (λa4 q=>?_) ?_
 ·grind
 have:=V _ i;rw[show(cI.mk (Y (m,.ref m [])) e [] [(m,⟨.st d.1,d.2⟩)]).app st=⟨(m,.ref m [])::ahw e [] st.g,(m,⟨.st d.1,d.2⟩)::del e st.h⟩ by
  show aM.mk ((m,_)::nF e [] st.g) ([_]++q3 e st.h)=_;rw[sO,w1];rfl] at this
 omega
theorem S5 {t:b} {q:cI->bv b} (k:o.op=.build c s) (i:o.dst=Y m) (j:C.ok m) (a:se E.tt l st.h (aU st.g) m c s.toList q=Y t) (n:∀r,q r=Y t->Q (r.app st)):e0 E C o st Q:=by
 unfold se at a;split at a
 ·cases a
 rename_i u e;split at a
 ·rename_i v x;cases d:(a9 u v&&(mA s.toList 0&&s.toList.all (λp=>ca p.1 (gL v)))) with
  |false=>grind
  |true=>
  rw[d] at a;simp only[bG] at a;have f:=d;rw[cC] at f;exact Lr k i j e (.inl f.1) f.2 a n
 cases d:(mA s.toList 0&&s.toList.all (λp=>ca p.1 (gL u))) with
 |false=>grind
 |true=>
 rw[d] at a;simp only[bG] at a;split at a
 ·rename_i y w;refine ah3 (an:=[]) i j ?_;rw[k];simp only[g3,yE,e,d,bG,w];exact n _ a
 exact Lr k i j e (.inr bn) d a n
def tW {i:Type} (tt:bm (bF×ai)) (f:bm (X×ai)) (g:bm (X×aD)) (a:X) (j:bF) (d:aj) (b:cI->bv i):bv i:=
 match aq tt j,aq g a with
 |some h,bo=>match d with
  |.val e d=>bif a9 h e then match aq f a with
   |some (.ptr .bh _)=>b ⟨Y (a,.val (.ptr .bh e) (Y d)),[],[],[]⟩
   |_=>b ⟨Y (a,.ref a []),[],[],[(a,⟨.optr e,d⟩)]⟩
   else bo
  |.ref id []=>match aq g id with
   |some c=>bif a9 h c.1 then match aq f a with
    |some (.ptr .bh _)=>bif oE c.1 then b ⟨Y (a,.hA (.ref id [])),[],[],[]⟩ else bo
    |_=>b ⟨Y (a,.ref a []),[id],[],[(a,⟨.optr c.1,c.2⟩)]⟩
    else bo
   |none=>bo
  |_=>bo
 |_,_=>bo
theorem S8 {d0:b} {ci:cI->bv b} (O:o.op=.box c n) (M:o.dst=Y m) (N:C.ok m) (e:tW E.tt l st.h m c (aU st.g n) ci=Y d0) (P:∀c1,ci c1=Y d0->Q (c1.app st)):e0 E C o st Q:=by
 unfold tW at e;split at e
 case h_2=>cases e
 rename_i r L dl;split at e
 ·rename_i ad d2 z;cases i:a9 r ad with
  |false=>grind
  |true=>
  rw[i] at e;simp only[bG] at e;split at e
  ·rintro a w ⟨I,rt,fp,j⟩ next co F
   have p:=j.aU n;rw[z] at p;have A:=(E.ok c r L).lay i;generalize H:a.eval n=K at p;cases p with|val U=>
   rename_i V;have u:∀s d,bf I C.B s d->c5 w (w.alloc (.cells V.toArray c)) d:=λs d i=>.of_heap ((ah4 w _).heap d (j.ib d (m0 i)));have bs:Yields E C st a w I rt fp o (λy J=>Q ⟨(m,y)::st.g,J++st.h⟩):=by
    refine⟨.pointer (Y ⟨w.heap.size,0,bo⟩),w.alloc (.cells V.toArray c),λd=>I d\/d=w.heap.size,λ_=>[],λ_=>[],.val (.ptr .bh ad) (Y d2),[],?_,ah4 w _,λ_ e=>.inl e,?_,.nil,?_,P _ e⟩
    ·simp[bL,O,H,ajJ,newVar,ahV,ow A U.len U.one]
    ·rintro d (e|rfl)
     ·grind
     simp_all
    refine .val (τ:=.ptr .bh ad) (x:=Y d2) (cs:=[.pointer (Y ⟨w.heap.size,0,bo⟩)]) ⟨bn,w.heap.size,0,V,bn,.inr bn,U.len,akK (λd6 K d4=>by grind),?_⟩;refine U.mono (λs d i=>⟨?_,u s d i⟩) ac;cases s
    ·exact .inl i
    exact i.imp .inl (λe=>e)
   exact bs.wp j M N (λy J am w' a3 ap a4=>F _ am w' a3 ap a4)
  refine ah3 (an:=[]) M N ?_;rw[O];simp only[g3,yF,L,dl,z,i,bG];exact P _ e
 ·rename_i id z;split at e
  case h_2=>cases e
  rename_i k R;cases i:a9 r k.1 with
  |false=>grind
  |true=>
  rw[i] at e;simp only[bG] at e;split at e
  ·cases bl:oE k.1 with
   |false=>rw[bl] at e;cases e
   |true=>
   rw[bl,bG] at e;rintro a w ⟨I,rt,fp,j⟩ next co F
   have p:=j.aU n;rw[z] at p;obtain⟨q,d1,ce⟩:=j.tree id k R;have A:=(E.ok c r L).lay i;generalize H:a.eval n=K at p;have d5:=p;cases p with|ref G a0=>
   rw[R] at G;cases G;obtain⟨rfl,rfl,rfl⟩:=ahI.1 a0;obtain⟨ao,d3⟩:=o6.one bl;have ds:=q.len;rw[ao] at ds;obtain⟨cv,c2⟩:=qC.1 ds;have u:∀d,d<w.heap.size->c5 w (w.alloc (.cells (rt id).toArray c)) d:=λd i=>.of_heap ((ah4 w _).heap d i);have bs:Yields E C st a w I rt fp o (λy J=>Q ⟨(m,y)::st.g,J++st.h⟩):=by
    refine⟨.pointer (Y ⟨w.heap.size,0,bo⟩),w.alloc (.cells (rt id).toArray c),λd=>I d\/d=w.heap.size,rt,fp,.hA (.ref id []),[],?_,ah4 w _,λ_ e=>.inl e,?_,.nil,?_,P _ e⟩
    ·simp[bL,O,H,ajJ,newVar,ahV,ow A q.len q.one]
    ·rintro d (e|rfl)
     ·exact .inl e
     exact .inr ⟨bd _,ac⟩
    have av:cP (bf (λd=>I d\/d=w.heap.size) C.B) (w.alloc (.cells (rt id).toArray c)) ([]++st.h) (fh [] rt rt) (fh [] fp fp) (.ref id []) (cW k.1 (rt id)):=by
     refine d5.mono (λs d D=>⟨?_,u d (j.ib d (m0 D))⟩) (λbx r T=>⟨(j.tree bx r T).1,λd i=>u d ((j.tree bx r T).2.2 d i).2.2.1⟩) (λbx r T=>⟨T,bn,bn⟩);cases s
     ·exact .inl D
     exact D.imp .inl (λe=>e)
    rw[c2] at av|-;rw[d3] at av;refine .hA (v:=cv) (.inr bn) ?_ (q.one cv (by rw[c2];simp)) av;rw[World.cell?_alloc_new];rfl
   exact bs.wp j M N (λy J am w' a3 ap a4=>F _ am w' a3 ap a4)
  rintro a w ⟨I,rt,fp,j⟩ next co F
  have p:=j.aU n;rw[z] at p;obtain⟨q,d1,ce⟩:=j.tree id k R;have A:=(E.ok c r L).lay i;generalize H:a.eval n=K at p;cases p with|ref G a0=>
  rw[R] at G;cases G;obtain⟨rfl,rfl,rfl⟩:=ahI.1 a0;have u:∀d,d<w.heap.size->c5 w (w.alloc (.cells (rt id).toArray c)) d:=λd i=>.of_heap ((ah4 w _).heap d i);have d7:aS (bf I C.B) (w.alloc (.cells (rt id).toArray c)) k.1 (rt id) k.2 (fp id):=q.mono (λs d i=>⟨i,u d (j.ib d (m0 i))⟩) (λd i=>u d (ce d i).2.2.1);refine e0.own (S:=[id]) (t:=⟨.optr k.1,k.2⟩) (cs:=[.pointer (Y ⟨w.heap.size,0,bo⟩)]) (f:=w.heap.size::fp id) (v:=.pointer (Y ⟨w.heap.size,0,bo⟩)) (w':=w.alloc (.cells (rt id).toArray c)) M N j F (.inr dl) ?_ (ah4 w _) rfl ⟨w.heap.size,0,fp id,rt id,bn,bn,q.len,akK (λd6 K d4=>by grind),akL (by simp[q.len]),d7⟩ (jZ.2 ⟨λD=>aje _ (ce _ D).2.2.1,d1⟩) ?_ ?_
  ·simp[bL,O,H,ajJ,newVar,ahV,ow A q.len q.one]
  ·intro d i;rcases fR.1 i with rfl|i
   ·simp_all
   grind
  have:=P _ e;rw[show(cI.mk (Y (m,.ref m [])) [id] [] [(m,⟨.optr k.1,k.2⟩)]).app st=⟨(m,.ref m [])::ahw [id] [] st.g,(m,⟨.optr k.1,k.2⟩)::del [id] st.h⟩ from rfl] at this;omega
 grind
def IF (a:ai) (b:aj):bv a.den:=match a with
 |.osl _=>match b with
  |.df (.slice bo 0 0)=>Y []
  |_=>bo
 |_=>bo
def XB {w:bD} {rt:X->ag5} {fp:X->ahb} (c:cP U w e rt fp d S) {b:k.den} (a:IF k d=Y b):aS U w k S.cells.toList b []:=by
 unfold IF at a;split at a
 ·split at a
  ·cases a;cases c;exact⟨bo,0,bn,.inl ⟨bn,bn,bn,bn⟩⟩
  cases a
 cases a
def ub (c:bm (X×aD)) (b:ai) (x:aj):bv (b.den×ahb):=
 match x with
 |.ref id []=>match aq c id with
  |some d=>match h2 b d.2 with
   |some a=>Y (a,[id])
   |none=>bo
  |none=>bo
 |x=>match coe b x with
  |some a=>Y (a,[])
  |none=>(IF b x).map λa=>(a,[])
def uc (b:bm (X×aD)) (a:ai):bm aj->bv (bm a.den×ev)
 |[]=>Y ([],[])
 |x::e=>match ub b a x,uc b a e with
  |some d,Y c=>Y (d.1::c.1,d.2::c.2)
  |_,_=>bo
theorem Tw (o:∀id k,aq e id=Y k->aS U w k.1 (rt id) k.2 (fp id)) (m:fi E.P k c) (h:cP U w e rt fp d S) {j:k.den} (a:ub e k d=Y (j,f)):aS U w k S.cells.toList j (f.map fp).flatten/\∀id∈f,∃s,aq e id=Y s:=by
 unfold ub at a;split at a
 ·rename_i id;split at a
  case h_2=>cases a
  rename_i t b;split at a
  case h_2=>cases a
  rename_i u q;cases a;obtain⟨x,d⟩:=t;have n:=kf q;cases n;cases h with|ref g p=>
  rw[b] at g;cases g;obtain⟨rfl,rfl,rfl⟩:=ahI.1 p;have i:=o id _ b;rw[ow m i.len i.one];grind
 split at a
 ·grind [Gd]
 obtain⟨v,r,l⟩:=fB.1 a;cases l;exact⟨XB h r,ac⟩
theorem LO {e:bm (X×aD)} {c:ai}:∀{b:bm aj} {xs:bm c.den} {is:ev},uc e c b=Y (xs,is)->xs.length=b.length/\is.length=b.length/\∀(d:X) (h:c.den),xs[d]?=Y h->∃(y:aj) (f:ahb),b[d]?=Y y/\is[d]?=Y f/\ub e c y=Y (h,f)
 |[],xs,is,a=>by cases a;grind
 |y::b,xs,is,a=>by
  simp only[uc] at a;split at a
  ·rename_i n g m i;cases a;obtain⟨j,k,l⟩:=LO (xs:=g.1) (is:=g.2) i;grind
  grind
def sg {i:Type} (tt:bm (bF×ai)) (k:bm (X×ai)) (f:bm (X×aD)) (e:bM->aj) (a:X) (j:bF) (g:X) (c:bm (X×bM)) (d:cI->bv i):bv i:=
 match gY tt j,aq f a with
 |some h,bo=>
  match(match aq k a with|some (.osl t)=>t|_=>h) with
  |t=>bif a9 h t&&b2 t.size 2000&&b2 g 1000&&vi c 0&&bI c.length g then
   match yJ t (c.map λb=>e b.2) with
   |some l=>d ⟨Y (a,.ref a []),[],[],[(a,⟨.osl t,l⟩)]⟩
   |none=>match uc f t (c.map λb=>e b.2) with
    |some b=>bif jz b.2.flatten then d ⟨Y (a,.ref a []),b.2.flatten,[],[(a,⟨.osl t,b.1⟩)]⟩ else bo
    |none=>bo
  else bo
 |_,_=>bo
theorem Tc {d8:b} {bs:cI->bv b} {q:X} (ds:o.op=.buildSlice c m s) (cv:o.dst=Y q) (c1:C.ok q) (j:sg E.tt l st.h (aU st.g) q c m s.toList bs=Y d8) (L:∀O,bs O=Y d8->Q (O.app st)):e0 E C o st Q:=by
 unfold sg at j;split at j
 case h_2=>cases j
 rename_i r co c2;generalize x:(match aq l q with|some (.osl d)=>d|_=>r)=d at j;simp only at j;cases i:(a9 r d&&b2 d.size 2000&&b2 m 1000&&vi s.toList 0&&bI s.toList.length m) with
 |false=>grind
 |true=>
 rw[i] at j;simp only[bG] at j;split at j
 ·rename_i z d4;refine ah3 (an:=l) cv c1 ?_;rw[ds];simp only[g3,wq,co,c2];cases H:aq l q with
  |none=>
   rw[H] at x;simp only at x;subst x;simp only[i,bG,d4];exact L _ j
  |some k=>
   rw[H] at x;cases k<;>(simp only at x;subst x;simp only[i,bG,d4];exact L _ j)
 split at j
 case h_2=>cases j
 rename_i k d1;obtain⟨z,p⟩:=k;cases av:jz p.flatten with
 |false=>grind
 |true=>
 rw[av] at j;rintro a w ⟨I,rt,fp,D⟩ next gf f6
 have fz:∀id d,aq st.h id=Y d->aS (bf I C.B) w d.1 (rt id) d.2 (fp id):=λid d x=>(D.tree id d x).1;simp only[cC] at i;obtain⟨⟨⟨⟨em,V⟩,ad⟩,N⟩,bx⟩:=i;have V:=gV V;have ad:=gV ad;have bx:s.toList.length=m:=fu bx;obtain⟨d6,U,_,fl,fn⟩:=gY.ok co;have K:=fn.lay em;obtain⟨a4,gi,d7,_⟩:=K.info;have hr:=K.pos;obtain⟨eq,ce,ci⟩:=LO d1;simp only[e8] at eq ce;have f9:z.length=m:=aa;have hc:m*d.size<=16777216:=(by have:m*d.size<=1000*2000:=oP ad V;omega);have am:∀(e:X) (k:X×bM),s.toList[e]?=Y k->∃(y:d.den) (u:ahb),z[e]?=Y y/\p[e]?=Y u/\aS (bf I C.B) w d (a.eval k.2).cells.toList y (u.map fp).flatten/\∀id∈u,∃r,aq st.h id=Y r:=(by intro e k F;have f3:e<z.length:=(by grind);obtain⟨kd,u,ao,gl,R⟩:=ci e z[e] ac;rw[jn,F] at ao;simp only[jo,eU] at ao;subst ao;obtain⟨hw,ic⟩:=Tw fz K (D.aU k.2) R;grind);have ap:∀id∈p.flatten,∃r,aq st.h id=Y r:=by
  intro id T;obtain⟨M,H,gs⟩:=lS.1 T;obtain⟨e,F,rfl⟩:=ho.1 H;have G:s.toList[e]?=Y (s.toList[e]'(by omega)):=bc _
  grind
 obtain⟨d5,f0,f1⟩:∃ek:ag3,(m*d.size=0->ek=#[])/\(m*d.size≠0->∃J,(ahu U).run E.P w=.ok J w/\ek=J.cells):=by
  by_cases A:m*d.size=0
  ·simp_all
  obtain⟨J,_,ge⟩:=fi.HN K;exact⟨J.cells,λj=>absurd j A,λ_=>⟨J,by simp[ahu,ahL,d7.info,ge a4 d7.info],bn⟩⟩
 obtain⟨bl,d9,i1,i2,aE⟩:=zJ (λa4=>Y (a4*d.size,d.size)) (s.toList.map λk=>(k.1,a.eval k.2)) ((Array.range (m*d.size)).map (d5[· %d5.size]!)) (by
  intro k L;obtain⟨i0,f7,rfl⟩:=eP.1 L;obtain⟨e,F,rfl⟩:=ho.1 f7;have G:s.toList[e]?=Y s.toList[e]:=ac;obtain⟨y,_,_,_,a3,_⟩:=am e _ G;have O:=rB N e _ G;have:(e+1)*d.size<=m*d.size:=iz _ aa;rw[nh,mR] at this;refine⟨_,_,bn,by have:=a3.len;omega,?_⟩;grind) (by
  rw[h0];intro e M F H f3 io i3 is i8 ao R;simp only[List.getElem_map,eU,im] at ao R;simp only[e8] at F H;have ex:=rB N e s.toList[e] ac;have f2:=rB N M s.toList[M] ac;obtain⟨rfl,rfl⟩:=ao;obtain⟨rfl,rfl⟩:=R;left;rw[ex,f2];have:(0+e+1)*d.size<=(0+M)*d.size:=iz _ aa;grind)
 have hs:bl.size=m*d.size:=(by grind);have fs:∀n,n<w.heap.size->c5 w (w.alloc (.cells bl U)) n:=λn i=>.of_heap ((ah4 w _).heap n i);have ft:(p.map λu=>(u.map fp).flatten).flatten=(p.flatten.map fp).flatten:=by
  clear am ap ci av j d1 ce
  induction p with
  |nil=>rfl
  |cons y M hv=>grind
 have f4:∀n∈(p.flatten.map fp).flatten,n<w.heap.size/\∃id∈p.flatten,∃r,aq st.h id=Y r/\n∈fp id:=(by intro n i;obtain⟨id,T,i⟩:=W7 i;obtain⟨r,a0⟩:=ap id T;exact⟨((D.tree id r a0).2.2 n i).2.2.1,id,T,r,a0,i⟩);refine e0.own (S:=p.flatten) (t:=⟨.osl d,z⟩) (cs:=[.slice (Y ⟨w.heap.size,0,bo⟩) m m]) (f:=w.heap.size::(p.flatten.map fp).flatten) (v:=.slice (Y ⟨w.heap.size,0,bo⟩) m m) (w':=w.alloc (.cells bl U)) cv c1 D f6 (.inr c2) ?_ (ah4 w _) rfl ?_ (jZ.2 ⟨λf5=>aje _ (f4 _ f5).1,D.HB (jz.ok av) ap⟩) ?_ ?_
 ·have f8:=K.sizeOf w;have hi:¬(16777216<m*d.size):=aa;have d0:(ajK (λy=>(y.fst,a.eval y.snd)) s).toList=s.toList.map λk=>(k.1,a.eval k.2):=ac;simp only[bL,ds,Instr.buildSlice,bY,b7 fl,b1,f8];rw[aw aa];by_cases A:m*d.size=0
  ·rw[au A];obtain rfl:=f0 A;rw[d0];simp only[bY,cy,b1,d9,ahV,newObj];rfl
  rw[aw A];obtain⟨J,gc,rfl⟩:=f1 A;rw[d0];simp only[bY,cy,b1,gc,d9,ahV,newObj];rfl
 ·refine⟨Y ⟨w.heap.size,0,bo⟩,m,by rw[f9],.inr ⟨w.heap.size,0,p.map λu=>(u.map fp).flatten,bn,by rw[ft],by grind,(by grind),akL aa,λe y go a3 dl=>?_⟩⟩;have F:e<m:=(by grind);have G:s.toList[e]?=Y (s.toList[e]'(by omega)):=by simp
  obtain⟨jp,u,d3,fT,d2,a0⟩:=am e _ G;rw[a3] at d3;obtain rfl:=gD d3;rw[jn,fT] at dl;obtain rfl:=gD dl;refine⟨_,d2.len,akK (λd6 el gt=>?_),d2.mono (λii n i=>⟨i,fs n (D.ib n (m0 i))⟩) (λn i=>?_)⟩
  ·have:=aE (s.toList[e].1,a.eval s.toList[e].2) (eP.2 ⟨s.toList[e],cO _,bn⟩) _ _ rfl d6 el (by grind);have O:=rB N e _ G;grind
  grind
 ·intro n i;rcases fR.1 i with rfl|i
  ·exact .inl ⟨bd _,ac⟩
  grind
 have:=L _ j;rw[show(cI.mk (Y (q,.ref q [])) p.flatten [] [(q,⟨.osl d,z⟩)]).app st=⟨(q,.ref q [])::ahw p.flatten [] st.g,(q,⟨.osl d,z⟩)::del p.flatten st.h⟩ by
  show aM.mk ((q,_)::nF _ [] st.g) ([_]++q3 _ st.h)=_;rw[sO,w1];rfl] at this
 omega
end
end
section
def jQ:ai->ai
 |.osl a=>.a6 .bh (jQ a)
 |.st a=>.st (jQ a)
 |.pr b c=>.pr (jQ b) (jQ c)
 |.mp a=>.fw .bh a
 |τ=>τ
def rf:ai->bA
 |.osl a|.st a=>rf a
 |.pr b c=>rf b&&rf c
 |.optr _|.eK=>bq
 |_=>bp
def ri:∀d:ai,(jQ d).den=d.den
 |.osl c=>b3 bm (ri c)
 |.st c=>ri c
 |.pr a b=>by show((jQ a).den×(jQ b).den)=(a.den×b.den);rw[ri a,ri b]
 |.int _|.bool|.str|.a6 _ _|.ptr _ _|.optr _|.nil|.eK|.mp _|.fw _ _|.fn _ _=>rfl
def nB (a:ai) (b:a.den):(jQ a).den:=cast (ri a).symm b
def Tn {c:Type} (d:b=c) (e:bm b=bm c) (a:bm b):cast e a=a.map (cast d):=by subst d;show a=a.map (λf=>f);simp
theorem F5 {c C d:Type} (e:b=c) (g:C=d) (f:(b×C)=(c×d)) (a:b×C):cast f a=(cast e a.1,cast g a.2):=by grind
def MT (a:ai) (b:bm a.den):(nB (.osl a) b:bm (jQ a).den)=b.map (nB a):=Tn (ri a).symm _ b
def Vp (a b:ai) (c:a.den×b.den):(nB (.pr a b) c:(jQ a).den×(jQ b).den)=(nB a c.1,nB b c.2):=F5 (ri a).symm (ri b).symm _ c
theorem sK:∀b:ai,(jQ b).size=b.size
 |.osl a=>rfl
 |.st a=>sK a
 |.pr c d=>by simp only[jQ,ahE,sK c,sK d]
 |.int _|.bool|.str|.a6 _ _|.ptr _ _|.optr _|.nil|.eK|.mp _|.fw _ _|.fn _ _=>rfl
theorem vf {z q:eD->X->Prop} {w:bD} (i:∀c b,z c b->q c b):∀{τ:ai} {g:ag5} {e:τ.den} {h:ahb},rf τ=bp->aS z w τ g e h->(∀b∈h,q .bh b)->aS q w (jQ τ) g (nB τ e) []
 |.osl f,g,p,h,j,a,k=>by
  obtain⟨A,I,D,a⟩:=a;have E:(nB (.osl f) p:bm (jQ f).den).length=ahn (α:=f.den) p:=(by rw[MT];simp);rcases a with⟨rfl,T,rfl,rfl⟩|⟨b,P,B,rfl,rfl,o,v,C,x⟩
  ·refine⟨bn,bo,0,by rw[D,E],by grind,λ_=>rfl,.inl ?_⟩;grind
  refine⟨bn,_,I,by rw[D,E],aa,(λa=>by cases a),?_⟩;refine .inr ⟨b,P,bn,k b ac,λl e n=>?_⟩;rw[MT] at n;have n:(List.map (nB f) p)[l]?=Y e:=n;rw[jn] at n;obtain⟨Q,F,rfl⟩:=fB.1 n;have U:l<ahn (α:=f.den) p:=(hJ.1 F).1;have M:B[l]?=Y (B[l]'(by omega)):=bc _
  obtain⟨u,r,s,t⟩:=x l Q _ F M;rw[sK];exact⟨u,r,s,vf i j t (λm y=>k m (g6 _ (lS.2 ⟨_,cO _,y⟩)))⟩
 |.st f,g,e,h,j,a,k=>vf (τ:=f) i j a k
 |.pr A b,g,e,h,j,a,k=>by
  simp only[rf,cC] at j;obtain⟨S,f2,rfl,o,v⟩:=a;have R:=Vp A b e;refine⟨[],[],bn,?_,?_⟩
  ·rw[sK];have:=vf i j.1 o (λm y=>k m (by grind));grind
  rw[sK];have:=vf i j.2 v (λm y=>k m (by grind));grind
 |.int O,g,e,h,_,a,_=>by obtain rfl:=aid (τ:=.int O) rfl a;exact a.mono (λc b d=>⟨i c b d,cp _ _⟩) ac
 |.bool,g,e,h,_,a,_=>by obtain rfl:=aid (τ:=.bool) rfl a;exact a.mono (λc b d=>⟨i c b d,cp _ _⟩) ac
 |.str,g,e,h,_,a,_=>by obtain rfl:=aid (τ:=.str) rfl a;exact a.mono (λc b d=>⟨i c b d,cp _ _⟩) ac
 |.a6 c f,g,e,h,_,a,_=>by obtain rfl:=aid (τ:=.a6 c f) rfl a;exact a.mono (λc b d=>⟨i c b d,cp _ _⟩) ac
 |.ptr c f,g,e,h,_,a,_=>by obtain rfl:=aid (τ:=.ptr c f) rfl a;exact a.mono (λc b d=>⟨i c b d,cp _ _⟩) ac
 |.nil,g,e,h,_,a,_=>by obtain rfl:=aid (τ:=.nil) rfl a;exact a.mono (λc b d=>⟨i c b d,cp _ _⟩) ac
 |.optr _,_,_,_,j,_,_=>by cases j
 |.fw c f,g,e,h,_,a,_=>by obtain rfl:=aid (τ:=.fw c f) rfl a;exact a.mono (λc b d=>⟨i c b d,cp _ _⟩) ac
 |.fn c f,g,e,h,_,a,_=>by obtain rfl:=aid (τ:=.fn c f) rfl a;exact a.mono (λc b d=>⟨i c b d,cp _ _⟩) ac
 |.mp f,g,e,h,_,a,k=>by
  cases e with
  |none=>exact⟨bn,a.2⟩
  |some G=>
   obtain⟨b,J,H,o,v,L,C,x,K⟩:=a;refine⟨b,J,H,o,bn,L,k b (by grind),C,x,λl G N=>?_⟩;obtain⟨u,r,s,t⟩:=K l G N;exact⟨u,r,s,t.mono (λc b d=>⟨i c b d,cp _ _⟩) ac⟩
 |.eK,_,_,_,j,_,_=>by cases j
def rh:aD->aj
 |⟨.optr u,x⟩=>.val (.ptr .bh (jQ u)) (Y (nB u x))
 |⟨a,x⟩=>.val (jQ a) (nB a x)
def HE:ai->bA
 |.optr a=>rf a
 |τ=>rf τ
def gX (c:bm (X×aD)) (b:ahb) (a:aj):aj:=
 match a with
 |.ref id []=>bif eR id b then match aq c id with
  |some d=>rh d
  |none=>.dead else .ref id []
 |a=>bif a.fm b then .dead else a
theorem mv (c:bm (X×aD)) (b:ahb) (a:aj):(∃id d,a=.ref id []/\id∈b/\aq c id=Y d/\gX c b a=rh d)\/(gX c b a=.dead/\a.fm b=bp)\/(gX c b a=a/\a.fm b=bq):=by
 have e:∀a:aj,gX c b a=(bif a.fm b then .dead else a)->(∃id d,a=.ref id []/\id∈b/\aq c id=Y d/\gX c b a=rh d)\/(gX c b a=.dead/\a.fm b=bp)\/(gX c b a=a/\a.fm b=bq):=(by grind);cases a with
 |ref id g=>
  cases g with
  |nil=>
   cases f:eR id b with
   |true=>
    have i:(aj.ref id []).fm b=bp:=(by simp[ahs,bT,f]);cases h:aq c id with
    |none=>grind [gX]
    |some d=>exact .inl ⟨id,d,bn,hd.1 f,h,by grind [gX]⟩
   |false=>grind [gX,ahs,bT]
  |cons j g=>exact e _ rfl
 |_=>exact e _ rfl
def iF (c:bm (X×aD)) (b:ahb):aj->aj
 |.ff d=>.ff (d.map (gX c b))
 |a=>gX c b a
theorem HD (b:∀a,d≠.ff a):iF e f d=gX e f d:=by
 cases d with
 |ff a=>grind
 |_=>rfl
def sJ (a:ahb) (st:aM):aM:=⟨st.g.map λb=>(b.1,iF st.h a b.2),del a st.h⟩
def HL (c:aj->aj) (e:c .dead=.dead):∀(d:bm (X×aj)) (b:X),gt (d.map λf=>(f.1,c f.2)) b=c (gt d b)
 |[],b=>e.symm
 |(g,a)::d,b=>by
  show gt ((g,c a)::_) b=_;rw[iV,iV];split
  ·rfl
  exact HL c e d b
theorem DC (a:ahb) (st:aM) (b:X):gt (sJ a st).g b=iF st.h a (gt st.g b):=HL (iF st.h a) rfl st.g b
def Vs (a:ahb) (st:aM):aU (sJ a st).g=λb=>iF st.h a (aU st.g b):=by
 funext b;cases b with
 |tmp c=>exact DC a st c
 |const d=>cases d<;>rfl
 |func e=>rfl
 |global f=>rfl
theorem Fe (b:d.fm f=bq) (a:bm (X×bm aZ)):fd f a d=d:=by grind [fd]
def adL {a:bm aj} (b:(aj.ff a).fm f=bq) (e:d∈a):d.fm f=bq:=by unfold ahs at b|-;rw[tE] at b|-;intro id h;obtain⟨c,g,rfl⟩:=ho.1 e;exact b id (aj.z8 (l:=a) (i:=c) (bc g) h)
theorem J9 (b:d.fm f=bq) (a:bm (X×bm aZ)):fH f a d=d:=by
 cases d with
 |ff e=>
  simp only[fH];rw[ik (λd c=>Fe (adL b c) a),akI]
 |_=>exact Fe b a
theorem Vt (a:ahb) (b:bm (X×bm aZ)) (c:aD):fH a b (rh c)=fd a b (rh c):=by unfold rh;split<;>rfl
def x4 (a e:aj):Prop:=a=.dead\/a=e\/∃b c,a=.ff b/\e=.ff c/\b.length=c.length/\∀(f:X) (d g:aj),b[f]?=Y d->c[f]?=Y g->d=.dead\/d=g
section
variable {C:eZ} {st:aM} {G:ag3} {w:bD}
theorem cM.freeze {e:X->ag5} (u:cM C st G w O e y) (T:∀id∈f,∃b,aq st.h id=Y b/\HE b.1=bp):gN C (sJ f st) G w:=by
 have K:=u.eC (S:=f) (keep:=[]) (new:=[]) (rtn:=e) (fpn:=y) (w':=w) (I':=λa=>O a\/∃id∈f,∃b,aq st.h id=Y b/\a∈y id) ⟨bd _,bn,bn,bn,λ_ _ _=>rfl,λ_ _=>.refl _ _,λ_ c=>.inl c,λa c=>c.imp id λ⟨id,ad,b,s,l⟩=>
  ⟨((u.tree id b s).2.2 a l).2.2.1,.inr ⟨id,ad,b,s,l⟩⟩,(λ_ _ c=>by cases c),(λ_ _ _ _ c=>by cases c),(λ_ c=>by cases c),(λ_ c=>by cases c)⟩
 refine⟨_,_,_,{K with tmp:=λq=>?_}⟩;rw[DC];have m:=u.tmp q;have p:=K.tmp q;rw[show gt (aM.mk (ahw f [] st.g) ([]++del f st.h)).g q=fH f [] (gt st.g q) from p6 _ _ _ _] at p;generalize gt st.g q=j at m p;generalize G.getD q bW=i at m p;have E:∀(j:aj) (i:Value),cP (bf O C.B) w st.h e y j i->cP (bf (λa=>O a\/∃id∈f,∃b,aq st.h id=Y b/\a∈y id) C.B) w ([]++del f st.h) (fh [] e e) (fh [] y y) (fd f [] j) i->
  cP (bf (λa=>O a\/∃id∈f,∃b,aq st.h id=Y b/\a∈y id) C.B) w ([]++del f st.h) (fh [] e e) (fh [] y y) (gX st.h f j) i:=by
  intro j i m p;rcases mv st.h f j with⟨id,b,k,n,o,R⟩|⟨k,_⟩|⟨k,n⟩
  ·rw[R];rw[k] at m;cases m with|ref s am=>
   rw[o] at s;cases s;obtain⟨rfl,rfl,rfl⟩:=ahI.1 am;obtain⟨c1,J,H⟩:=T id n;rw[o] at J;cases J;have F:∀v a,bf O C.B v a->bf (λa=>O a\/∃id∈f,∃b,aq st.h id=Y b/\a∈y id) C.B v a:=by
    intro v a l;cases v
    ·exact .inl l
    exact l.imp .inl (λc=>c)
   have I:=(u.tree id b o).1;have z:∀a∈y id,bf (λa=>O a\/∃id∈f,∃b,aq st.h id=Y b/\a∈y id) C.B .bh a:=λa l=>.inr ⟨id,n,b,o,l⟩;obtain⟨d,t⟩:=b;by_cases an:∃r,d=.optr r
   ·obtain⟨r,rfl⟩:=an;obtain⟨a,A,bx,N,ao,a4,bl,P,bs,Q⟩:=I;show cP _ _ _ _ _ (.val (.ptr .bh (jQ r)) (Y (nB r t))) _;have ao:e id=[.pointer (Y ⟨a,A,bo⟩)]:=ao;rw[ao];refine .val (τ:=.ptr .bh (jQ r)) (x:=Y (nB r t)) (cs:=[.pointer (Y ⟨a,A,bo⟩)]) ⟨bn,a,A,N,bn,z a (by grind),by grind [sK],P,vf F H Q (λM ce=>z M (by grind))⟩
   have av:cW d (e id)=cW (jQ d) (e id):=(by cases d<;>rfl);have a0:rh ⟨d,t⟩=.val (jQ d) (nB d t):=by cases d<;>first|rfl|grind
   have ap:rf d=bp:=by cases d<;>first|exact H|grind
   rw[a0];show cP _ _ _ _ _ _ (cW d (e id));rw[av];exact .val (vf F ap I z)
  ·rw[k];exact .dead _
  grind [Fe]
 cases j with
 |ff cv=>
  cases m with|ff ci U=>
  cases p with|ff co V=>
  refine .ff (by grind) (λL a3 i k n=>?_);rw[jn] at k;obtain⟨D,o,rfl⟩:=fB.1 k;exact E D i (U L D i o n) (V L _ i (by grind) n)
 |_=>exact E _ _ m p
theorem gN.NF (t:gN C st G w) (y:∀a,x4 (gt i.g a) (gt st.g a)) (J:∀id,aq i.h id=aq st.h id):gN C i G w:=by
 obtain⟨k,n,l,d⟩:=t;refine⟨k,n,l,{d with tree:=λid e p=>d.tree id e (by grind),dis:=λj D e F L M=>d.dis j D e F (by grind) (by grind),tmp:=λa=>?_}⟩;have P:∀(b:aj) (f:Value),cP (bf k C.B) w st.h n l b f->cP (bf k C.B) w i.h n l b f:=λb f v=>
  v.s2 (λO H x=>⟨x,cp _ _⟩) (λid _ e p=>⟨by grind,bn,bn,(d.tree id e p).1,λ_ _=>cp _ _⟩)
 have m:=d.tmp a;rcases y a with c|c|⟨N,E,ao,q,r,s⟩
 ·rw[c];exact .dead _
 ·grind
 rw[ao];rw[q] at m;generalize G.getD a bW=f at m;cases m with|ff z K=>
 refine .ff (r.trans z) (λj b f u I=>?_);obtain⟨o,A⟩:∃o,E[j]?=some o:=(by grind);rcases s j b o u A with c|c
 ·rw[c];exact .dead _
 grind
def gN.less (b:gN C st G w) (c:∀a,gt i.g a=.dead\/gt i.g a=gt st.g a) (d:∀id,aq i.h id=aq st.h id):gN C i G w:=
 b.NF (λa=>(c a).imp id .inl) d
end
def rJ:Op->bm bM
 |.build _ c=>c.toList.map (·.2)
 |.buildSlice _ _ c=>c.toList.map (·.2)
 |.store _ _ a=>[a]
 |.mapUpdate _ _ _ a=>[a]
 |.insert _ _ _ a=>[a]
 |.entryStore _ _ _ a=>[a]
 |.box _ a=>[a]
 |.assign a=>[a]
 |.call b=>match b.callee with
  |.value _=>b.args.toList
  |.builtin .append=>b.args.toList.drop 1
  |_=>[]
 |_=>[]
def uL (b:bQ):X:=match b.dst with
 |some a=>a
 |none=>999999
def mw (a:ahd) (c:X) (b:bM->aj):bm bM->ahb
 |[]=>[]
 |x::d=>match b x with
  |.ref id []=>bif a.any (λe=>bI e.1 c&&bI e.2 id) then id::mw a c b d else mw a c b d
  |_=>mw a c b d
end
section
theorem Gh {c d:bm b} (e:m<=a) (f:a<=c.length):(jt c d m a).length=c.length:=by grind [ahO,aho,akM,jt]
theorem LW {d e:bm b} (f:a<=m) (g:m<=d.length) (c:X):(jt d e a m)[c]?=if a<=c/\c<a+min e.length (m-a) then e[c-a]? else d[c]?:=by grind [jt]
def qV {k:Type} (tt:bm (bF×ai)) (d:bm (X×aD)) (f:X) (l:bF) (m j:aj) (e:cI->bv k):bv k:=
 match gY tt l with
 |none=>bo
 |some i=>match m with
  |.ref id []=>match aq d id with
   |some ⟨.osl a,b⟩=>bif a9 i a&&bI a.size 1&&a.pure then
    (ld d a j).bind λc=>e ⟨Y (f,.val (.int .i64) ((min c.length (b.length-0):X):Z)),[id],[(id,[])],[(id,⟨.osl a,jt b c 0 b.length⟩)]⟩
    else bo
   |_=>bo
  |.view id [] h g=>match aq d id with
   |some ⟨.osl a,b⟩=>bif a9 i a&&bI a.size 1&&a.pure then
    (ld d a j).bind λc=>e ⟨Y (f,.val (.int .i64) ((min c.length (g-h):X):Z)),[id],[(id,[])],[(id,⟨.osl a,jt b c h g⟩)]⟩
    else bo
   |_=>bo
  |_=>bo
def cI.SL {b:bm (X×bm aZ)} {st:aM}:(cI.mk (Y (a,d)) f b e).app st=⟨(a,d)::ahw f b st.g,e++del f st.h⟩:=by show aM.mk ((a,d)::nF f b st.g) (e++q3 f st.h)=_;rw[sO,w1]
section
variable {E:fy} {C:eZ} {st:aM} {a:Act} {w:bD} {I:X->Prop} {rt:X->ag5} {fp:X->ahb} {o:bQ}
def Kl (e:cM C st a.tmps w I rt fp) {b:bm k.den} (c:ld st.h k (aU st.g n)=Y b):yx I C.B w k (a.eval n) b:=by
 refine vz e ?_;have:=AX c;generalize rM st.h k (aU st.g n)=i at this;cases i with
 |e4 l=>exact this.symm
 |part m o j=>obtain⟨f,d,rfl⟩:=this;exact⟨f,d,bn⟩
 |bad=>exact this.elim
theorem Gg (co:cM C st a.tmps w I rt fp) {eq:b} {dl:cI->bv b} {y:X} (gs:o.op=.call {callee:=.builtin .copy,args:=#[n,N],argTypes:=#[c,r]}) (f8:o.dst=Y y) (f9:C.ok y) {next:Act->bD->Prop} {d0:b4->Act->bD->Prop} (go:∀ex a3 w',(∃s,dl s=Y eq/\ex=s.app st)->a3.defers=a.defers->gN C ex a3.tmps w'->next a3 w') (f5:gY E.tt c=Y Q) (gl:a9 Q k=bp) (G:k.size=1) (V:k.pure=bp) {id e:X} {j i:bm k.den} (am:aq st.h id=Y ⟨.osl k,j⟩) (ce:m<=e) (ci:e<=j.length) (hr:yx I C.B w k (a.eval N) i) {a4:bv Addr} {d1:X} (hc:a.eval n=.slice a4 (e-m) d1) (hi:e-m=0\/∃d p L,rt id=[.slice (Y ⟨d,p,bo⟩) j.length L]/\a4=Y ⟨d,p+m,bo⟩) (f2:dl ⟨Y (y,.val (.int .i64) ((min i.length (e-m):X):Z)),[id],[(id,[])],[(id,⟨.osl k,jt j i m e⟩)]⟩=Y eq):o.wp E.P a w next d0:=by
 obtain⟨f,ds,ax,d7,f0⟩:=gY.ok f5;have f1:=f0.lay gl;obtain⟨nd,_,ap,_⟩:=f1.info;obtain⟨fn,n7,of⟩:=co.tree id _ am;obtain⟨fs,kd,d3,hv,cv,lo⟩:=hr;have d2:∀w':bD,w'.heap.size=w.heap.size->w'.os=w.os->w'.tape=w.tape->w'.output=w.output->(∀d,d∉fp id->w'.heap[d]?=w.heap[d]?)->(∀d,iX w' d=iX w d)->aS (bf I C.B) w' (.osl k) (rt id) (jt j i m e) (fp id)->
  (Builtin.copy_ #[c,r] o.type #[a.eval n,a.eval N]).run E.P w=.ok (goInt ((min i.length (e-m):X):Z)) w'->o.wp E.P a w next d0:=by
  intro w' i0 i1 i2 i3 i8 jp nx ad;have ad:(bL a.eval o).run E.P w=.ok (.value (goInt ((min i.length (e-m):X):Z))) w':=(by simp only[bL,gs,ahU,invoke,aib,bY,cy,b1,ajQ,h7,aiq,ad]);have gt:=co.eC (S:=[id]) (keep:=[(id,[])]) (new:=[(id,⟨.osl k,jt j i m e⟩)]) (rtn:=rt) (fpn:=fp) (w':=w') (I':=I)
   ⟨Nat.le_of_eq i0.symm,i1,i2,i3,λd lk f4=>i8 d (f4 id ac _ am),λd _=>.of_eq (jp d),λ_ M=>M,λ_ M=>.inl M,(by
    intro f fl t;rw[dg] at t;split at t
    ·grind
    ·cases t),(by
    intro f g ol on t c1 lt;rw[dg] at t c1;split at t
    ·split at c1
     ·omega
     cases c1
    ·cases t),(by
    intro s O fl an;simp only[gj] at O;subst O;have an:aq st.h id=Y fl:=an;rw[am] at an;obtain rfl:=gD an;exact⟨⟨.osl k,jt j i m e⟩,by rw[dg,au bn],bn,bn,⟨_,bn⟩,λno _ _ _ T=>by grind [DQ]⟩),(by
    grind [uB,ahk])⟩
  unfold ahp;rw[ad];show next (a.put o.dst _) w'
  rw[f8];have V:=gt.put f9 (av:=.val (.int .i64) ((min i.length (e-m):X):Z)) (v:=goInt ((min i.length (e-m):X):Z)) (.val (τ:=.int .i64) (cs:=[.int .i64 _]) ⟨bn,bn⟩);have hrel:gN C ((cI.mk (Y (y,.val (.int .i64) ((min i.length (e-m):X):Z))) [id] [(id,[])] [(id,⟨.osl k,jt j i m e⟩)]).app st) (a.put (Y y) (goInt ((min i.length (e-m):X):Z))).tmps w':=(by rw[cI.SL];exact⟨I,_,_,V⟩);exact go _ _ _ ⟨_,f2,bn⟩ rfl hrel
 have mp:Nat.min i.length (e-m)=min i.length (e-m):=rfl;by_cases T:min i.length (e-m)=0
 ·have ll:jt j i m e=j:=by
   apply hQ;intro f;rw[LW ce ci,aw aa]
  refine d2 w bn rfl rfl rfl (λ_ _=>rfl) (λ_=>rfl) (by grind) ?_;rw[hc,hv,T];exact run_copy_none w c r o.type ds a4 fs _ _ _ _ d7 (by rw[ap.info];simp[ap.size,G]) aa
 rcases hi with lf|⟨d,p,L,el,rfl⟩
 ·omega
 rw[el] at fn;obtain⟨kg,le,ao,fT⟩:=fn;simp only[hP,ahm,b8] at ao;obtain⟨rfl,_,rfl⟩:=ao;rcases fT with⟨bl,_⟩|⟨lb,nn,D,bl,ek,d4,d5,bx,d6⟩
 ·cases bl
 cases bl;have d5:j.length<=L:=d5;have d4:D.length=j.length:=d4;have gf:D.flatten=[]:=Hv (λbs R=>by
  obtain⟨f,t,rfl⟩:=ho.1 R;have mo:f<j.length:=aa;obtain⟨A,_,_,z⟩:=d6 f j[f] D[f] ac ac;exact z.pure V)
 rw[gf] at ek;obtain⟨c2,ic,ii,io,is⟩:=cv.cells aa;rw[G,aiM] at ic;have hs:i≠[]:=λs=>(by grind);obtain⟨a0,rfl⟩:∃a0,fs=some a0:=by
  rcases cv.2 with M|⟨lc,ne,rfl,_⟩
  ·grind
  grind
 let l:=c2.take (min i.length (e-m))
 have f6:l.length=min i.length (e-m):=(by grind);have f7:∀g v,l[g]?=Y v->c2[g]?=Y v:=λg v q=>by
  rw[ajF] at q;split at q
  ·exact q
  grind
 have d9:∀g,g<l.length->(w.cell? ⟨d,p+m+g,bo⟩).isSome=bp:=λg q=>(bx (p+m+g) aa (by grind)).1;have ad:=run_copy_cells (P:=E.P) w c r o.type ds d (p+m) (e-m) d1 a0 i.length kd l d7 (by rw[ap.info];simp[ap.size,G]) (by rw[f6]) (λg v q=>io a0 bn hs g v (f7 g v q)) d9 (λg q=>(bx (p+m+g) aa (by grind)).2) (λv x=>ii v (rY x));have d8:d∈fp id:=(by grind);have f3:∀J u,bf I C.B J u->u≠d:=λJ u U s=>co.notM am d d8 J (s▸U);refine d2 (w.setCells d (p+m) l) (tg d l _ w) (ph d l _ w).1 (ph d l _ w).2.1 (ph d l _ w).2.2 (λu T=>xV d l _ w u (λs=>T (s▸d8))) (λu=>z6 _ _ _ _ _) ?_ ?_
 ·rw[el,ek];refine⟨Y ⟨d,p,bo⟩,L,by rw[Gh ce ci],.inr ⟨d,p,bJ j.length [],bn,by rw[Hv (λbs R=>List.eq_of_mem_replicate R)],by grind [Gh],by grind [Gh],?_,?_⟩⟩
  ·intro g hw ib;obtain⟨or,oN⟩:=bx g hw ib;grind [JE,akB]
  intro f K bs H R;have ge:bs=[]:=(by grind);subst ge;rw[LW ce ci] at H;have em:∀{A:ag5} {K:k.den},aS (bf I C.B) w k A K []->aS (bf I C.B) (w.setCells d (p+m) l) k A K []:=λF=>F.mono (λJ u U=>⟨U,rC (f3 J u U)⟩) ac;split at H
  ·rename_i mc;have q:f-m<l.length:=aa;have gi:d3[f-m]?=Y []:=by
    have mt:f-m<d3.length:=(by rw[cv.1];omega);grind [List.flatten_eq_nil_iff,b6,bR]
   have F:=is (f-m) K [] H gi;rw[G,aiM] at F;have gc:(c2.drop (f-m)).take 1=[l[f-m]]:=(by grind [ai4]);rw[gc] at F;refine⟨[l[f-m]],by grind,?_,em F⟩;intro g v x;cases g with
   |zero=>
    simp only[qz,eU] at x;subst x;have:=ajc d l (p+m) w d9 (f-m) q;rw[<-this,G];congr 2;omega
   |succ g=>grind
  rename_i mz;have l2:f<j.length:=(hJ.1 H).1;obtain⟨A,ft,fz,z⟩:=d6 f K (D[f]'(by omega)) H ac
  have O:D[f]'(by omega)=[]:=z.pure V
  rw[O] at z;refine⟨A,ft,?_,em z⟩;intro g v x;have:=fz g v x;grind [ajU,ahT]
 grind
theorem e0.copy {K:b} {F:cI->bv b} (A:o.op=.call {callee:=.builtin .copy,args:=#[n,N],argTypes:=#[c,r]}) (v:o.dst=Y m) (x:C.ok m) (d:qV E.tt st.h m c (aU st.g n) (aU st.g N) F=Y K):e0 E C o st (λT=>∃J,F J=Y K/\T=J.app st):=by
 rintro a w ⟨I,rt,fp,f⟩ next am z
 have k:=f.aU n;unfold qV at d;split at d
 ·cases d
 rename_i L B;split at d
 ·rename_i id u;split at d
  case h_2=>cases d
  rename_i j M i;cases e:(a9 L j&&bI j.size 1&&j.pure) with
  |false=>grind
  |true=>
  rw[e] at d;simp only[cC] at e;obtain⟨V,q,d⟩:=eO.1 d;rw[u] at k;generalize p:a.eval n=U at k;cases k with|ref l y=>
  rw[i] at l;cases l;obtain⟨rfl,rfl,rfl⟩:=ahI.1 y;have D:=(f.tree id _ i).1;obtain⟨G,H,ao,O⟩:=D;have Q:a.eval n=.slice G (M.length-0) H:=(by rw[p,ao];rfl);refine Gg f A v x z B e.1.1 (fu e.1.2) e.2 i (c8 _) (bd _) (Kl f q) Q ?_ d;grind
 ·rename_i id a4 av u;split at d
  case h_2=>cases d
  rename_i j M i;cases e:(a9 L j&&bI j.size 1&&j.pure) with
  |false=>grind
  |true=>
  rw[e] at d;simp only[cC] at e;obtain⟨V,q,d⟩:=eO.1 d;rw[u] at k;generalize p:a.eval n=U at k;cases k with|ma=>(exact Gg f A v x z B e.1.1 (fu e.1.2) e.2 i (bd _) (c8 _) (Kl f q) p (.inl bn) d)|view l y R S a0=>
  rw[i] at l;cases l;rename_i ad bl an bs a3 H;obtain⟨s,_,t⟩:=ahI.1 y;have s:ai.osl j=ai.osl ad:=s;cases s;have P:=fu e.1.2;have D:=(f.tree id _ i).1;obtain⟨G,ap,ao,O⟩:=D;rw[ao] at t;simp only[hP,ahm,b8] at t;obtain⟨rfl,rfl,rfl⟩:=t;refine Gg f A v x z B e.1.1 P e.2 i R S (Kl f q) p ?_ d;grind
 grind
end
end
section
def aX.cells {w q:bD} (e:∀a,q.cell? a=w.cell? a):∀{p:bm aZ} {τ r:ai} {m n:Loc} {f g:ag5},aX w τ m f p r n g->aX q τ m f p r n g
 |[],τ,_,_,_,_,_,c=>by cases τ<;>exact c
 |s::p,τ,r,m,n,f,g,c=>by
  have u:∀{b o:X} {d:ag5},fq w b o d->fq q b o d:=λy A C z=>(by rw[e];exact y A C z);cases τ<;>cases s<;>simp only[aX] at c
  case osl.idx t i=>
   obtain⟨b,o,B,v,d,h,j,k,l,x⟩:=c;exact⟨b,o,B,v,d,h,j,k,u l,x.cells e⟩
  case optr.deref t=>
   obtain⟨b,o,d,h,j,k,l⟩:=c;exact⟨b,o,d,h,j,u k,l.cells e⟩
  case st.unst t=>exact aX.cells e (τ:=t) c
  case pr.fst a b=>exact aX.cells e (τ:=a) c
  case pr.snd a b=>exact aX.cells e (τ:=b) c
theorem adt (a:ai):fk a []=Y a:=by cases a<;>rfl
theorem aX.xZ {w:bD} {r:bm aZ}:∀{p:bm aZ} {τ c:ai} {m n:Loc} {e f:ag5},aX w τ m e p c n f->fk τ (p++r)=fk c r
 |[],τ,_,_,_,_,_,a=>by grind [ahI]
 |s::p,τ,_,_,_,_,_,a=>by
  cases τ<;>cases s<;>simp only[aX] at a
  case osl.idx t i=>obtain⟨d,o,u,q,g,h,j,k,b,l⟩:=a;exact l.xZ
  case optr.deref t=>obtain⟨d,o,g,h,j,k,b⟩:=a;exact b.xZ
  case st.unst t=>exact aX.xZ (p:=p) (τ:=t) a
  case pr.fst t1 t2=>exact aX.xZ (p:=p) (τ:=t1) a
  case pr.snd t1 t2=>exact aX.xZ (p:=p) (τ:=t2) a
section
variable {E:fy} {C:eZ} {st:aM} {a:Act} {A:ag3} {w:bD} {I:X->Prop} {rt:X->ag5} {fp:X->ahb} {o:bQ} {Q:aM->Prop}
def L7:∀{p q:bm aZ},kV (p++[.deref]) q=bp->kV p q=bp
 |[],q,a=>by
  cases q with
  |nil=>cases a
  |cons s q=>
   cases s<;>cases a
 |s::p,[],a=>by cases s<;>cases a
 |s::p,b::q,a=>by cases s<;>cases b<;>first|(cases a;done)|exact L7 (p:=p) (q:=q) a|rfl
theorem cM.D3 (v:cM C st A w I rt fp) {id:X} (t:aq st.h id=Y P) {d7:ai} {ad:Loc} (N:aX w P.1 bo (rt id) j d7 ad R) {T:bm (Z×k.den)} (cv:eN P.1 P.2 j (.mp k) (Y (T,m))):∃a E D,R=[.map (Y a)]/\a∈fp id/\(∀q b,bf I C.B q b->b≠a)/\hp (bf I C.B) w k a T m E D/\∀{e:bU cm} {c:X} {z:bm (Z×k.den)} {K:bm (Z×X×k.den)} {p:P.1.den},hp (bf I C.B) (gS w a e c) k a z c e K->kQ w (gS w a e c) a->e9 P.1 P.2 j (.mp k) (Y (z,c)) p->∃d6 a0,cM C ⟨ahw [id] [(id,j++[.deref])] st.g,(id,⟨P.1,p⟩)::del [id] st.h⟩ A (gS w a e c) I d6 a0:=by
 obtain⟨d0,Q,co⟩:=v.tree id P t;obtain⟨f5,ek,em,d5,a3,a4,bl,L,eq,bs,bx⟩:=zN j (loc:=bo) d0 (λ_ _ i=>by cases i) Q (λ_ _ i=>by cases i) (v.notM t) cv;obtain⟨an,ao,ap⟩:=N.lu a3;subst an;subst ao;subst ap;obtain⟨a,E,D,rfl,rfl,F⟩:=a4.Od;have G:a∈fp id:=L.mem_iff.2 ac;have ci:∀q b,bf I C.B q b->b≠a:=λq b f n=>v.notM t a G q (n▸f);refine⟨a,E,D,bn,G,ci,F,?_⟩;intro e c z K p ce fl S;have O:=L.nodup_iff.1 Q;rw[jY] at O;have fT:∀b∈d5,b≠a:=λb f n=>O.2.2 a ac b f n.symm;have x:=acu (es':=e) (c':=c) F.h;have cs:=acv (es':=e) (c':=c) F.h;have d2:∀b,b≠a->c5 w (gS w a e c) b:=λb f=>ET f;obtain⟨el,av,f0,_,d3,_,f3,_,f1⟩:=bs (gS w a e c) (bf I C.B) [.map (Y a)] (Y (z,c)) [a] p (λ_ _ i=>i) (λb f=>by
   have c1:b≠a:=by
    rcases f with⟨q,ft⟩|f|⟨o,fz⟩
    ·grind
    ·grind
    grind
   exact⟨λu _=>x _,λu=>cs _,λu=>by rw[x],(d2 b c1).2⟩)
  (aS.Oe ce) (λ_ _=>rfl) (λam d4 n=>by
   have:=(bl am d4 n).1;exactλu V s=>by rw[x];exact this u V s) S
 obtain rfl:=d3 bn (.inr bn);have fs:=(co a G).2.2.1;have d:nk C st w (gS w a e c) I I rt fp [id] [(id,j++[.deref])] [(id,⟨P.1,p⟩)] (λ_=>rt id) (λ_=>av):=by
  refine⟨by grind [Qp],bn,bn,bn,?_,?_,λ_ i=>i,λ_ i=>.inl i,?_,?_,?_,?_⟩
  ·grind [AL]
  ·intro b _;by_cases n:b=a
   ·grind
   exact .of_heap (AL n)
  ·intro H J d;rw[dg] at d;split at d
   ·grind [Qp]
   cases d
  ·intro H u J V l s fn;rw[dg] at l s;split at l
   ·split at s
    ·omega
    cases s
   cases l
  ·intro H l J d;simp only[gj] at l;subst l;rw[t] at d;obtain rfl:=gD d;refine⟨⟨P.1,p⟩,by rw[dg,au bn],bn,bn,?_,λU gc f6 d9 _ ds=>ds.cells x⟩;have ex:=N.xZ (r:=[.deref]);grind [adt,fk]
  intro H l J d U f9 f8 f4 d8 f2 y dl c2 M d1;simp only[gj] at l;subst l;rw[t] at d;obtain rfl:=gD d;have y:=L7 y;refine⟨⟨P.1,p⟩,by rw[dg,au bn],uC y S M,λb f=>?_⟩;obtain⟨ax,f7⟩:=bx U _ _ _ _ _ y (by exact dl) M c2 d1 b f;grind
 exact⟨_,_,v.eC d⟩
def xx {α:Type} (c:bv (bm (Z×α)×X)) (b:Z) (d:α):bv (bv (bm (Z×α)×X)):=match c with
 |none=>bo
 |some a=>Y (Y (kI a.1 b d,bif (gq a.1 b).isSome then a.2 else a.2+1))
def oj {f:Type} (tt:bm (bF×ai)) (i:bm (X×aD)) (h:bF) (n d m:aj) (g:cI->bv f):bv f:=
 match n with
 |.ref id c=>match aq i id with
  |some a=>match k1 tt h,d,m with
   |some l,.val (.int .i64) d,.val p e=>match fk a.1 c with
    |some (.mp b)=>bif a9 l b then match h2 b e with
     |some e=>(h4 a.1 a.2 c (.mp b)).bind λj=>(xx (α:=b.den) j d e).bind λk=>(mF a.1 a.2 c (.mp b) k).bind λo=>g ⟨bo,[id],[(id,c++[.deref])],[(id,⟨a.1,o⟩)]⟩
     |none=>bo
     else bo
    |_=>bo
   |_,_,_=>bo
  |none=>bo
 |_=>bo
def WV {α:Type} (c:bv (bm (Z×α)×X)) (b:Z):bv (bv (bm (Z×α)×X)):=match c with
 |none=>bo
 |some a=>Y (Y (jk a.1 b,a.2))
def rq {e:Type} (tt:bm (bF×ai)) (h:bm (X×aD)) (g:bF) (l d:aj) (f:cI->bv e):bv e:=
 match l with
 |.ref id b=>match aq h id with
  |some a=>match k1 tt g,d with
   |some k,.val (.int .i64) d=>match fk a.1 b with
    |some (.mp c)=>bif a9 k c then
     (h4 a.1 a.2 b (.mp c)).bind λi=>(WV (α:=c.den) i d).bind λj=>(mF a.1 a.2 b (.mp c) j).bind λm=>f ⟨bo,[id],[(id,b++[.deref])],[(id,⟨a.1,m⟩)]⟩
     else bo
    |_=>bo
   |_,_=>bo
  |none=>bo
 |_=>bo
theorem Oh {A:b} {r:cI->bv b} {f:bM} (j:o.op=.mapUpdate c f n N\/o.op=.insert c f n N) (T:o.dst=bo) (d:oj E.tt st.h c (aU st.g f) (aU st.g n) (aU st.g N) r=Y A):e0 E C o st (λc1=>∃t,r t=Y A/\c1=t.app st):=by
 rintro a w ⟨I,rt,fp,i⟩ next d4 am
 have p:=i.aU f;have e:=i.aU n;have m:=i.aU N;unfold oj at d;split at d
 case h_2=>cases d
 rename_i id d8 H;split at d
 case h_2=>cases d
 rename_i fn y;split at d
 case h_2=>cases d
 rename_i ds k fl eq S D G;obtain⟨d0,d3,c2,dl,d9⟩:=k1.ok S;split at d
 case h_2=>cases d
 rename_i q ap;cases u:a9 ds q with
 |false=>grind
 |true=>
 rw[u] at d;simp only[bG] at d;split at d
 case h_2=>cases d
 rename_i em a3;obtain⟨bx,V,K⟩:=eO.1 d;obtain⟨d7,v,L⟩:=eO.1 K;obtain⟨ex,a4,M⟩:=eO.1 L;cases bx with
 |none=>cases v
 |some ce=>
 obtain⟨bl,s⟩:=ce;cases v;cases kf a3;rw[H] at p;rw[D] at e;rw[G] at m;generalize a0:a.eval f=el at p;generalize ad:a.eval n=d6 at e;generalize av:a.eval N=ek at m;cases e with|val cs=>
 obtain⟨_,rfl⟩:=cs;cases m with|val B=>
 cases p with|ref z x=>
 rw[y] at z;cases z;obtain⟨l,d5,d1,rfl,u,Q,O,U⟩:=i.D3 y x (iR V);have:=x.ty;rw[ap] at this;cases this;obtain⟨F,d2,ax,ci,co⟩:=O.update (P:=E.P) c2 dl k B.len B;obtain⟨cv,J,R⟩:=U (ci (λbs n e=>⟨e,Q bs n e⟩)) co (m6 a4);unfold ahp;have an:(bL a.eval o).run E.P w=.ok .skip (gS w l F (bif (gq bl k).isSome then s else s+1)):=by
  have this:∀q:ai,cW (.mp q) [aiH (Y l)]=.map (Y l):=λ_=>rfl;rcases j with j|j<;>
  ·simp only[bL,j,a0,ad,av,bY];rw[this,show cW (.int .i64) [ahr .i64 k]=.int .i64 k from rfl,ax];rfl
 rw[an];show next (a.put o.dst bW) _
 rw[T];refine am _ _ _ ⟨_,M,?_⟩ rfl ⟨I,cv,J,R⟩;rfl
theorem W6 {x:b} {m:cI->bv b} (U:o.op=.call {callee:=.builtin .delete,args:=#[N,n],argTypes:=#[c,r]}) (O:o.dst=bo) (d:rq E.tt st.h c (aU st.g N) (aU st.g n) m=Y x):e0 E C o st (λbx=>∃p,m p=Y x/\bx=p.app st):=by
 rintro a w ⟨I,rt,fp,i⟩ next dl T
 have j:=i.aU N;have e:=i.aU n;unfold rq at d;split at d
 case h_2=>cases d
 rename_i id d3 B;split at d
 case h_2=>cases d
 rename_i d7 u;split at d
 case h_2=>cases d
 rename_i co k M z;obtain⟨cs,c2,ce,ci,d4⟩:=k1.ok M;split at d
 case h_2=>cases d
 rename_i l ad;cases q:a9 co l with
 |false=>grind
 |true=>
 rw[q] at d;simp only[bG] at d;obtain⟨av,R,F⟩:=eO.1 d;obtain⟨d2,s,G⟩:=eO.1 F;obtain⟨d6,an,H⟩:=eO.1 G;cases av with
 |none=>cases s
 |some a0=>
 obtain⟨d1,y⟩:=a0;cases s;rw[B] at j;rw[z] at e;generalize am:a.eval N=d5 at j;generalize S:a.eval n=d0 at e;cases e with|val bl=>
 obtain⟨_,rfl⟩:=bl;cases j with|ref v t=>
 rw[u] at v;cases v;obtain⟨f,ds,cv,rfl,q,K,J,Q⟩:=i.D3 u t (iR R);have:=t.ty;rw[ad] at this;cases this;obtain⟨A,c1,ax,a3,a4⟩:=J.delete (P:=E.P) ce ci k o.type r;obtain⟨bs,D,L⟩:=Q (a3 (λap n e=>⟨e,K ap n e⟩)) a4 (m6 an);unfold ahp;have V:(bL a.eval o).run E.P w=.ok (.value (.tuple #[])) (gS w f A y):=(by simp only[bL,U,ahU,invoke,aib,bY,cy,b1,ajQ,h7,aiq,am,S];have this:∀l:ai,cW (.mp l) [aiH (Y f)]=.map (Y f):=λ_=>rfl;rw[this,show cW (.int .i64) [ahr .i64 k]=.int .i64 k from rfl,ax];rfl);rw[V];show next (a.put o.dst (.tuple #[])) _
 rw[O];refine T _ _ _ ⟨_,H,?_⟩ rfl ⟨I,bs,D,L⟩;rfl
def u9 (c:bm (X×aD)) (f g:aj):bv (X×bm aZ×X×aD):=match f,g with
 |.ref id (e::d),.ref a []=>match aq c a with
  |some b=>match b.1 with
   |.osl h=>match h.pure with
    |true=>bo
    |false=>Y (id,e::d,a,b)
   |_=>bo
  |none=>bo
 |_,_=>bo
def yA {h:Type} (tt:bm (bF×ai)) (e:bm (X×aD)) (b:X) (j:bF) (id:X) (c:bm aZ) (f:X) (k:aD) (i:cI->bv h):bv h:=
 match gY tt j,aq e id,aq e b with
 |some l,Y d,bo=>match fk d.1 c with
  |some (.osl a)=>match h2 (.osl a) k.2 with
   |some g=>bif a9 l a&&(b2 a.size 1300&&(a.kK&&!(bI f id))) then
    (h4 d.1 d.2 c (.osl a)).bind λm=>(cG (ahn (α:=a.den) m+ahn (α:=a.den) g)).bind λ_=>i ⟨Y (b,.app id c a g [b,f]),[id],[(id,c),(id,[])],[(b,⟨.eK,()⟩),(id,d)]⟩
    else bo
   |none=>bo
  |_=>bo
 |_,_,_=>bo
def n6 {g:Type} (tt:bm (bF×ai)) (h:bm (X×ai)) (a:bm (X×aD)) (d:X) (c:bF) (e f:aj) (b:cI->bv g):bv g:=match u9 a e f with
 |some (id,j,i,k)=>yA tt a d c id j i k b
 |none=>oX tt h a d c e f b
theorem I9 {id:X} (a:u9 e d t=Y (id,j,m,P)):d=.ref id j/\t=.ref m []/\aq e m=Y P:=by unfold u9 at a;grind
theorem SI {A:b} {s:cI->bv b} (y:o.op=.call {callee:=.builtin .append,args:=#[N,n],argTypes:=#[c,c]}) (v:o.dst=Y m) (x:C.ok m) (d:n6 E.tt l st.h m c (aU st.g N) (aU st.g n) s=Y A):e0 E C o st (λce=>∃f,s f=Y A/\ce=f.app st):=by
 unfold n6 at d;split at d
 case h_2=>exact e0.app y v x (SF d (λf p=>⟨f,p,bn⟩))
 rename_i id dl e ci am;obtain⟨M,O,q⟩:=I9 am;unfold yA at d;split at d
 case h_2=>cases d
 rename_i co d4 K av L;split at d
 case h_2=>cases d
 rename_i j c1;split at d
 case h_2=>cases d
 rename_i d2 a3;cases i:(a9 co j&&(b2 j.size 1300&&(j.kK&&!(bI e id)))) with
 |false=>grind
 |true=>
 rw[i] at d;simp only[cC] at i;obtain⟨R,ap,U,V⟩:=i;have V:e≠id:=λf=>(by simp_all);obtain⟨d1,a0,H⟩:=eO.1 d;obtain⟨_,S,J⟩:=eO.1 H;obtain⟨d3,D⟩:=ci;cases kf a3;rintro a w ⟨I,rt,fp,k⟩ next cs ad
 refine La (S2:=[e]) y v x k ad K R (gV ap) U M av L (iR a0) ?_ ?_ (xo S) ⟨_,J,bn⟩
 ·have r:=k.aU n;rw[O] at r;generalize c2:a.eval n=d0 at r;cases r with|ref z T=>
  rw[q] at z;cases z;obtain⟨rfl,rfl,rfl⟩:=ahI.1 T;obtain⟨bl,bx,ds⟩:=k.tree e _ q;have a4:=bl;obtain⟨t,u,an,cv⟩:=a4;have bs:aS (bf I C.B) w (.osl j) [.slice t (ahn (α:=j.den) D) u] D (fp e):=(by grind);obtain⟨_,_,G,p,P,Q,_⟩:=ks.osl bs;exact⟨t,u,G,by rw[an];rfl,p,Q bx,λF i=>⟨e,ac,_,q,P F i⟩⟩
 grind
end
end
section
section
variable {P:b0} {w:bD} {b c:X} {A:bU cm} {M:eD->X->Prop} {t:ai} {l:bm (Z×t.den)} {L:bm (Z×X×t.den)}
theorem JF {d e:bU cm} (g:w.heap[b]?=Y (.map A c)) (f:gS w b d a=gS w b e m):d=e/\a=m:=by grind [ais,Obj.map.injEq,oz]
theorem hp.Lh (h:hp M w t b l c A L) {g:cm} (i:A[a]?=Y g):∃d f,L[a]?=Y d/\g=⟨.int .i64 d.1,cW t f,d.2.1⟩:=by have j:a<L.length:=(by have:=(rN.1 i).1;rw[h.n] at this;omega);obtain⟨f,_,k,_⟩:=h.e a L[a] (bc j);grind
theorem hp.adz (f:hp M w t b l c A L) {d e:Z×X×t.den} (n:L[a]?=Y d) (o:L[m]?=Y e) (k:d.1=e.1):a=m:=by have h:=f.pa.nd;have g:a<(L.map (·.1)).length:=(by grind);apply(ajO g h (i:=a) (j:=m)).1;grind
theorem hp.ady (f:hp M w t b l c A L) {e d:Z×X×t.den} (n:L[a]?=Y e) (o:L[m]?=Y d) (k:e.2.1=d.2.1):a=m:=by have h:=f.pa.2.2.1;have g:a<(L.map λd=>d.2.1).length:=(by grind);apply(ajO g h (i:=a) (j:=m)).1;grind
theorem Oc {d:Type} {c:bU d} {e f:d->d} (g:∀b,c[a]?=Y b->e b=f b):c.modify a e=c.modify a f:=by grind
theorem hp.entry (d:hp M w t b l c A L) {z y:bF} {N:cx} (n:P.underlying r=Y (.map z y)) (g:P.underlying z=Y (.int N)) (a:Z) {x:t.den} (J:R.length=t.size) (F:aS M w t R x []) (K:∀w,(ahu y).run P w=.ok (cW t R) w):∃(f:bU cm) (o:bm (Z×X×t.den)) (u:ag5) (p e:X),(akN r (.map (Y b)) (.int .i64 a)).run P w=.ok (.tuple #[cW t u,goInt ((p:X):Z)]) (gS w b f (bif (gq l a).isSome then c else c+1))/\aS M w t u ((gq l a).getD x) []/\f[e]?=Y (ajC (.int .i64 a) (cW t u) p)/\(∀{B:eD->X->Prop},(∀G a,M G a->B G a/\a≠b)->hp B (gS w b f (bif (gq l a).isSome then c else c+1)) t b (kI l a ((gq l a).getD x)) (bif (gq l a).isSome then c else c+1) f o)/\kQ w (gS w b f (bif (gq l a).isSome then c else c+1)) b:=by
 rcases d.find (P:=P) g a with⟨v,I,s⟩|⟨e,p,T,q,v,I,s,Q,C,D⟩
 ·obtain⟨f,o,ax,i,j⟩:=d.update (P:=P) n g a J F;rw[v] at ax i j|-;simp only[akw,bO,Option.getD_none] at ax i j|-;have k:(ah2 r (.map (Y b)) (.int .i64 a) (cW t R)).run P w=.ok () (gS w b (A.push ⟨.int .i64 a,cW t R,c⟩) (c+1)):=by
   simp only[ah2,bY,b7 n,b1,aiN d.h,ox g,s];exact qk d.h
  rw[ax] at k;simp only[akO,aiD] at k;obtain⟨rfl,_⟩:=JF d.h k;refine⟨_,o,R,c,A.size,?_,F,by rw[Array.getElem?_push,au bn],i,j⟩;simp only[akN,bY,b7 n,b1,aiN d.h,ox g,s,K,qk d.h,cy];rfl
 obtain⟨f,o,ax,i,j⟩:=d.update (P:=P) n g a s C;rw[v] at ax i j|-;simp only[ajN,bG,r2] at ax i j|-;have E:(aiG (((A[e]?).map (·.key)).getD (.int .i64 a)) (.int .i64 a)).run P w=.ok (.int .i64 a) w:=(by simp_all [aiG,akx]);have k:(ah2 r (.map (Y b)) (.int .i64 a) (cW t q)).run P w=.ok () (gS w b (A.modify e λm=>{m with key:=.int .i64 a,val:=cW t q}) c):=(by simp only[ah2,bY,b7 n,b1,aiN d.h,ox g,D,E];exact qk d.h);rw[ax] at k;simp only[akO,aiD] at k;obtain⟨rfl,_⟩:=JF d.h k;refine⟨_,o,q,p,e,?_,C,by grind,i,j⟩;have ao:(A.modify e λm=>{m with key:=.int .i64 a,val:=cW t q})=A.modify e λm=>{m with key:=.int .i64 a}:=Oc λm S=>(by grind);have H:((A[e]?).map λO=>((O.born:X):Z)).getD 0=(p:Z):=(by grind);simp only[akN,bY,b7 n,b1,aiN d.h,ox g,D,E,qk d.h,cy,ao,H];rfl
theorem hp.Uq (f:hp M w t b l c A L) {e:cm} {d:Z} (y:A[a]?=Y e) (ci:e.key=.int .i64 d) {q F:bF} {ad:cx} (x:P.underlying r=Y (.map q F)) (k:P.underlying q=Y (.int ad)) {E:t.den} (K:R.length=t.size) (V:aS M w t R E []):∃i j,(alL r (.map (Y b)) (.int .i64 (e.born:Z)) (cW t R)).run P w=.ok () (gS w b i (bif (gq l d).isSome then c else c+1))/\(∀{s:eD->X->Prop},(∀C d,M C d->s C d/\d≠b)->hp s (gS w b i (bif (gq l d).isSome then c else c+1)) t b (kI l d E) (bif (gq l d).isSome then c else c+1) i j)/\kQ w (gS w b i (bif (gq l d).isSome then c else c+1)) b:=by
 obtain⟨D,a0,z,bx⟩:=f.Lh y;have cs:D.1=d:=(by grind);rcases f.find (P:=P) k d with⟨u,v,G⟩|⟨g,cv,c1,av,u,v,G,a4,bl,H⟩
 ·grind
 obtain rfl:g=a:=f.adz v z aa;obtain⟨i,j,ax,n,o⟩:=f.update (P:=P) x k d K V;rw[u] at ax n o|-;simp only[ajN,bG] at ax n o|-;have T:(aiG (((A[g]?).map (·.key)).getD (.int .i64 d)) (.int .i64 d)).run P w=.ok (.int .i64 d) w:=(by simp_all [aiG,akx]);have p:(ah2 r (.map (Y b)) (.int .i64 d) (cW t R)).run P w=.ok () (gS w b (A.modify g λe=>{e with key:=.int .i64 d,val:=cW t R}) c):=(by simp only[ah2,bY,b7 x,b1,aiN f.h,ox k,H,T];exact qk f.h);rw[ax] at p;simp only[akO,aiD] at p;obtain⟨rfl,_⟩:=JF f.h p;refine⟨_,j,?_,n,o⟩;have ao:(A.modify g λe=>{e with key:=.int .i64 d,val:=cW t R})=A.modify g λe=>{e with val:=cW t R}:=Oc λa3 N=>(by grind);have O:A.findIdx? (λan=>(an.born:Z)==(e.born:Z))=Y g:=by
  rw[Array.findIdx?_eq_some_iff_getElem];have Q:=(rN.1 y).1;refine⟨Q,?_,λB ce co=>?_⟩
  ·grind
  have S:B<A.size:=aa;obtain⟨am,ap,U,N⟩:=f.Lh (AY S);have bs:(A[B].born:Z)=(e.born:Z):=(by grind);have J:am.2.1=D.2.1:=(by grind);have:=f.ady U z J;omega
 have I:∀(m:Z) (w:bD),(asInt (.int .i64 m)).run P w=.ok m w:=λm w=>(by simp[asInt,ail]);simp only[alL,bY,cy,b1,aiN f.h,I,O,qk f.h,ao];rfl
end
def rr {f:Type} (tt:bm (bF×ai)) (j:bm (X×aD)) (i:X) (h:bF) (m a:aj) (g:cI->bv f):bv f:=
 match m with
 |.ref id c=>match aq j id with
  |some b=>match k1 tt h,a with
   |some l,.val (.int .i64) a=>match fk b.1 c with
    |some (
     .mp t)=>match mb t with
     |some e=>bif a9 l t then
      (h4 b.1 b.2 c (.mp t)).bind λd=>(xx (α:=t.den) d a ((mD d a).getD e)).bind λk=>(mF b.1 b.2 c (.mp t) k).bind λn=>
       g ⟨Y (i,.ff [.val t ((mD (α:=t.den) d a).getD e),.ent id c a]),[id],[(id,c++[.deref])],[(id,⟨b.1,n⟩)]⟩
      else bo
     |none=>bo
    |_=>bo
   |_,_=>bo
  |none=>bo
 |_=>bo
def q7 {b:Type} (tt:bm (bF×ai)) (e:bm (X×aD)) (d:bF) (k i j:aj) (c:cI->bv b):bv b:=
 match k,i with
 |.ref id a,.ent f h g=>bif bI f id&&l7 h a then oj tt e d (.ref id a) (.val (.int .i64) g) j c else bo
 |_,_=>bo
theorem e9.kY:∀{p:bm aZ} {τ:ai} {e g:τ.den} {d:ai} {f:d.den},e9 τ e p d f g->eN τ g p d f
 |[],τ,e,g,d,f,c=>by grind [eN.gz,e9.gz]
 |s::p,τ,e,g,d,f,c=>by
  cases τ<;>cases s<;>simp only[e9] at c
  case osl.idx t i=>
   obtain⟨l,h,j,c,rfl⟩:=c;have k:i<e.length:=(hJ.1 j).1;exact⟨h,by rw[List.getElem?_set_self k],e9.kY (p:=p) c⟩
  case optr.deref t=>exact e9.kY (p:=p) (τ:=t) c
  case st.unst t=>exact e9.kY (p:=p) (τ:=t) c
  case pr.fst a b=>obtain⟨h,c,rfl⟩:=c;exact e9.kY (p:=p) c
  case pr.snd a b=>obtain⟨h,c,rfl⟩:=c;exact e9.kY (p:=p) c
def Np:∀a:bm aZ,ha (a++[.deref]) a=bp
 |[]=>rfl
 |s::a=>by cases s<;>exact Np a
theorem Wg (id:X) (a:bm aZ):fH [id] [(id,a++[.deref])] (.ref id a)=.ref id a:=by
 have:k2 [(id,a++[.deref])] (.ref id a)=bp:=by
  cases a with
  |nil=>simp[k2]
  |cons b a=>
   have:=Np (b::a);simp_all [List.any_cons,List.any_nil,Bool.or_false,ai9,ajd,k2]
 show fd _ _ _=_;unfold fd;rw[show kj [id] [(id,a++[.deref])] (.ref id a)=k2 [(id,a++[.deref])] (.ref id a) from rfl,this];simp
def aav {id:X} (a:aU T n=.ref id j):aU (ahw [id] [(id,j++[.deref])] T) n=.ref id j:=by
 cases n with
 |tmp c=>
  have a:gt T c=.ref id j:=a;have b:=p6 [id] [(id,j++[aZ.deref])] T c;rw[a] at b;exact b.trans (Wg id j)
 |const d=>exact absurd a (by cases d<;>simp[aU])
 |global T=>cases a
 |func e=>cases a
section
variable {E:fy} {C:eZ} {st:aM} {o:bQ} {Q:aM->Prop}
theorem Xd {a:Act} (k:cM C i a.tmps v O x y) {id:X} (q:aU i.g N=.ref id j) (d:aq i.h id=Y P) {t:ai} {G:bm (Z×t.den)} (w:eN P.1 P.2 j (.mp t) (Y (G,m))) {b:X} (E:a.eval N=.map (Y b)) {f:bU cm} (A:v.heap[b]?=Y (.map f m)) {F:X} {c:cm} (z:f[F]?=Y c) {n:Z} (s:c.key=.int .i64 n):cP (bf O C.B) v i.h x y (.ent id j n) (.int .i64 (c.born:Z)):=by
 have e:=k.aU (a:=a) N;rw[q,E] at e;generalize M:aiH (Y b)=T at e;cases e with|ref o l=>
 rename_i S U R J;rw[d] at o;obtain rfl:=gD o;obtain⟨rfl,L,D,_,u⟩:=k.kY d w l;rcases D.Iw with⟨c,_⟩|⟨p,Q,I,K,H,_,rfl,rfl,_⟩
 ·cases c
 have r:b=p:=(by grind [cW]);subst r;exact .ent d l (u b ac) (nH.2 A) z s
theorem Xe {an:Type} {V:an} {x:cI->bv an} {m:bM} (dl:o.op=.mapEntry r m N) (bx:o.dst=Y a) (bs:C.ok a) (d:rr E.tt st.h a r (aU st.g m) (aU st.g N) x=Y V):e0 E C o st (λv=>∃D,x D=Y V/\v=D.app st):=by
 rintro j w ⟨p,ge,f5,q⟩ next f4 c2
 have s:=q.aU m;have e:=q.aU N;unfold rr at d;split at d
 case h_2=>cases d
 rename_i id d6 G;split at d
 case h_2=>cases d
 rename_i ap Q;split at d
 case h_2=>cases d
 rename_i fp n bl a3;obtain⟨f2,a0,ex,fl,fn⟩:=k1.ok bl;split at d
 case h_2=>cases d
 rename_i t d1;split at d
 case h_2=>cases d
 rename_i fs d2;cases M:a9 fp t with
 |false=>grind
 |true=>
 rw[M] at d;simp only[bG] at d;obtain⟨d5,co,f⟩:=eO.1 d;obtain⟨gc,k,i⟩:=eO.1 f;obtain⟨am,T,H⟩:=eO.1 i;clear d f i;cases d5 with
 |none=>cases k
 |some d7=>
 obtain⟨l,c⟩:=d7;rw[G] at s;rw[a3] at e;generalize S:j.eval m=gi at s;generalize cv:j.eval N=f9 at e;cases e with|val em=>
 obtain⟨_,rfl⟩:=em;cases s with|ref R O=>
 rw[Q] at R;cases R;obtain⟨b,A,L,rfl,f6,J,I,ci⟩:=q.D3 Q O (iR co);have:=O.ty;rw[d1] at this;cases this;obtain⟨f8,f1,ft,fz,fT,f0⟩:=vC (fn.lay M) d2;have d3:∀w,(ahu a0).run E.P w=.ok (cW t f1.cells.toList) w:=λw=>(by rw[<-fT];simp[ahu,ahL,ft,fz]);have U:=f0 (bf p C.B) w;obtain⟨F,f3,z,v,f7,ax,d8,d9,ek,el⟩:=I.entry (P:=E.P) ex fl n U.len U d3;have c1:mD (α:=t.den) (Y (l,c)) n=gq l n:=rfl;rw[c1] at k H;simp only[xx,eU] at k;subst k;generalize(bif (gq l n).isSome then c else c+1)=y at*;generalize(gq l n).getD fs=ad at*;obtain⟨eq,a4,K⟩:=ci (ek (λu N e=>⟨e,J u N e⟩)) el (m6 T);have d0:(bL j.eval o).run E.P w=.ok (.value (.tuple #[cW t z,goInt ((v:X):Z)])) (gS w b F y):=(by simp only[bL,dl,S,cv,bY];have this:∀t:ai,cW (.mp t) [aiH (Y b)]=.map (Y b):=λ_=>rfl;rw[this,show cW (.int .i64) [ahr .i64 n]=.int .i64 n from rfl,ax];rfl);unfold ahp;rw[d0];show next (j.put o.dst _) _
 rw[bx];have cs:aq ((id,(⟨ap.1,am⟩:aD))::del [id] st.h) id=Y ⟨ap.1,am⟩:=(by rw[dg,au bn]);have ds:aS (bf p C.B) (gS w b F y) t z ad []:=d8.mono (λu N e=>⟨e,ET (J u N e)⟩) ac;have ce:=Xd K (aav G) cs (e9.kY (m6 T)) S (oz I.h) d9 (n:=n) rfl;refine c2 _ _ _ ⟨_,H,?_⟩ rfl ⟨p,eq,a4,K.put bs (av:=.ff [.val t ad,.ent id d6 n]) ?_⟩
 ·rfl
 refine .ff bn (λd4 av gf f i=>?_)
 match d4 with
 |0=>simp at f i;subst f;subst i;exact .val ds
 |1=>simp at f i;subst f;subst i;exact ce
 |n+2=>grind
theorem Uv {M:Type} {J:M} {u:cI->bv M} {i:bM} (fp:o.op=.entryStore r i n N) (a0:o.dst=bo) (a:q7 E.tt st.h r (aU st.g i) (aU st.g n) (aU st.g N) u=Y J):e0 E C o st (λn=>∃v,u v=Y J/\n=v.app st):=by
 rintro d w ⟨O,f1,ex,e⟩ next eq ce
 have s:=e.aU i;have m:=e.aU n;have q:=e.aU N;unfold q7 at a;split at a
 case h_2=>cases a
 rename_i id d1 c1 d2 d0 U S;cases f:(bI c1 id&&l7 d2 d1) with
 |false=>grind
 |true=>
 rw[f] at a;rw[cC] at f;obtain rfl:=fu f.1;obtain rfl:=l7.ok f.2;simp only[bG] at a;unfold oj at a;simp only at a;split at a
 case h_2=>cases a
 rename_i gc p;split at a
 case h_2=>cases a
 rename_i d9 f0 f9 f7 ap y T;simp only[aj.val.injEq,heq_eq_eq,aiD] at y;subst y;obtain⟨ek,em,d7,d8,f3⟩:=k1.ok ap;split at a
 case h_2=>cases a
 rename_i t co;cases av:a9 d9 t with
 |false=>grind
 |true=>
 rw[av] at a;simp only[bG] at a;split at a
 case h_2=>cases a
 rename_i f6 cs;obtain⟨ds,a4,z⟩:=eO.1 a;obtain⟨fT,j,B⟩:=eO.1 z;obtain⟨f8,cv,ad⟩:=eO.1 B;clear a z B;cases ds with
 |none=>cases j
 |some d3=>
 obtain⟨l,c⟩:=d3;cases kf cs;rw[U] at s;rw[S] at m;rw[T] at q;generalize fz:d.eval i=f5 at s;generalize fs:d.eval n=f2 at m;generalize ft:d.eval N=f4 at q;cases q with|val K=>
 cases m with|ent I bx fl G bl bs=>
 rw[p] at I;cases I;cases s with|ref H k=>
 rw[p] at H;cases H;obtain⟨b,A,L,rfl,fn,am,D,a3⟩:=e.D3 p k (iR a4);have:=k.ty;rw[co] at this;cases this;obtain⟨ao,_,x⟩:=k.lu bx;simp only[hP,Value.map.injEq,eU,b8] at x;subst x;rw[nH.2 D.h] at G;cases G;obtain⟨R,el,ax,d4,d5⟩:=D.Uq (P:=E.P) bl bs d7 d8 K.len K;simp only[xx,eU] at j;subst j;generalize(bif (gq l d0).isSome then c else c+1)=Q at*;obtain⟨d6,V,an⟩:=a3 (d4 (λdl c2 F=>⟨F,am dl c2 F⟩)) d5 (m6 cv);unfold ahp;have ci:(bL d.eval o).run E.P w=.ok .skip (gS w b R Q):=(by have this:∀t:ai,cW (.mp t) [aiH (Y b)]=.map (Y b):=λ_=>rfl;simp_all [bY,bL]);rw[ci];show next (d.put o.dst bW) _
 rw[a0];refine ce _ _ _ ⟨_,ad,?_⟩ rfl ⟨O,d6,V,an⟩;rfl
end
end
section
structure Sp where
 c:cr
 n:X
 pin:bv ahb
 ds:ahb
 α:Type
 f:aM->bv α
 g:aM->α->aM
structure gU where
 tt:bm (bF×ai)
 E2:bm (X×jF)
 an:bm (X×ai)
 n:X
 pin:ahb
 kg:bm (X×aj)
 p4:ahd
 acG:bv ec
 aB:ag4
 ag1:bm Sp
 uN:bm tQ
 eq:ag4
def ye (b:b0) (c:bF):Prop:=∃a e d,b.info? c=Y a/\a.size=1/\a.zero=Y e/\e.cells.size=1/\b.underlying c=Y d/\(match d with|.struct _|.array _ _=>bp|_=>bq)=bq
def zK:bm hq->bm aj->bA
 |.c d _::a,.eA b _::as=>bI b d&&zK a as
 |.c _ _::_,_=>bq
 |_::a,_::as=>zK a as
 |_,_=>bp
def sT:bm (X×jF)->X->bm aj->bv jF
 |[],_,_=>bo
 |(k,F)::l,f,as=>bif bI k f&&(zK F.ps as&&(jC 0 F.ps).isNone) then Y F else sT l f as
theorem Ic:∀{e:bm (X×jF)} {c:X} {as:bm aj} {b:jF},sT e c as=Y b->∃d,(d,b)∈e
 |[],_,_,_,a=>by cases a
 |(d,G)::e,c,as,b,a=>by
  simp only[sT] at a;cases f:(bI d c&&(zK G.ps as&&(jC 0 G.ps).isNone)) with
  |true=>grind
  |false=>
   rw[f] at a;obtain⟨h,g⟩:=Ic a;grind
theorem Ie:∀{d:bm (X×jF)} {c:X} {as:bm aj} {b:jF},sT d c as=Y b->jC 0 b.ps=bo
 |[],_,_,_,a=>by cases a
 |(k,G)::d,c,as,b,a=>by
  simp only[sT] at a;cases e:(bI k c&&(zK G.ps as&&(jC 0 G.ps).isNone)) with
  |true=>
   simp_all
  |false=>
   rw[e] at a;exact Ie a
def uE (ic:gU) (a:ni) (b:a.den):aM:=⟨ic.kg++oa a.g b,uD a.h (uF a.g b)⟩
def gB (b:X) (c:ahb) (a:X):bA:=ca a b&&!(eR a c)
def ao (ic:gU) {A:Type} (a:bM->aj) (g:bm (X×aD)) (r:bQ) (c:cI->bv A):bv A:=
 match r.dst with
 |none=>match r.op with
  |.store d e v=>rG ic.tt g d (a e) (a v) c
  |.mapUpdate d e o v=>oj ic.tt g d (a e) (a o) (a v) c
  |.insert d e o v=>oj ic.tt g d (a e) (a o) (a v) c
  |.entryStore d e F v=>q7 ic.tt g d (a e) (a F) (a v) c
  |.call {callee:=.builtin .delete,args:=xs,argTypes:=s}=>match xs.toList,s.toList with
   |[e,o],[d,_]=>rq ic.tt g d (a e) (a o) c
   |_,_=>bo
  |_=>bo
 |some b=>
  bif gB ic.n ic.pin b then
  match r.op with
  |.pick y e i=>match a y with
   |.val .bool j=>(match a e,a i with
    |.val k u,.val H v=>match h2 (τ:=H) k v with
     |some v=>c ⟨Y (b,.val k (bif j then u else v)),[],[],[]⟩
     |none=>bo
    |u,v=>match j with
     |true=>c ⟨Y (b,u),[],[],[]⟩
     |false=>c ⟨Y (b,v),[],[],[]⟩)
   |_=>bo
  |.call {callee:=.value z,args:=xs,argTypes:=_}=>match a z with
   |.eA l m=>
    match sT ic.E2 l (xs.toList.map a++m) with
    |none=>bo
    |some h=>bif bI h.f l then
     ki g (rH (xs.toList.map a++m) h.ps) h.ps (xs.toList.map a++m) λq=>(h.xU q).bind λj=>bif nv b ⟨[],g⟩ (xs.toList.map a++m) (gK h.ps q j) (iY h.rs (it h.ps j)) then
      c ⟨Y (b,vg b (iY h.rs (it h.ps j))),gv (xs.toList.map a++m) (gK h.ps q j),xi (mB (xs.toList.map a++m) (gK h.ps q j)),j8 (xs.toList.map a++m) (gK h.ps q j)++i5 b (iW (iY h.rs (it h.ps j))) 0 (iY h.rs (it h.ps j))⟩ else bo
     else bo
   |_=>bo
  |.call {callee:=.builtin .append,args:=xs,argTypes:=s}=>match xs.toList,s.toList with
   |[e,i],[d,x]=>bif bI d x then n6 ic.tt ic.an g b d (a e) (a i) c else bo
   |_,_=>bo
  |.call {callee:=.builtin .copy,args:=xs,argTypes:=s}=>match xs.toList,s.toList with
   |[e,i],[d,_]=>qV ic.tt g b d (a e) (a i) c
   |_,_=>bo
  |.assign e=>match a e with
   |.val k i=>c ⟨Y (b,.val k i),[],[],[]⟩
   |.eA l m=>c ⟨Y (b,.eA l m),[],[],[]⟩
   |.addr id E=>c ⟨Y (b,.addr id E),[],[],[]⟩
   |.df v=>match aq ic.an b with
    |none=>c ⟨Y (b,.df v),[],[],[]⟩
    |some k=>match k.pure&&pT k v with
     |true=>(iQ k v.cells.toList).bind λi=>c ⟨Y (b,.val k i),[],[],[]⟩
     |false=>(pO ic.an g b (.df v)).bind c
   |v=>(pO ic.an g b v).bind c
  |.build d w=>se ic.tt ic.an g a b d w.toList c
  |.mapEntry d e o=>rr ic.tt g b d (a e) (a o) c
  |.box d e=>tW ic.tt ic.an g b d (a e) c
  |.buildSlice d C w=>sg ic.tt ic.an g a b d C w.toList c
  |_=>match kE ic.tt ic.an g a b r.op with
   |.e4 t=>c ⟨Y (b,t),[],[],[]⟩
   |.opt _ i l=>i.bind λp=>c ⟨Y (b,l p),[],[],[]⟩
   |.new _ i G B=>bif bI B b then i.bind λp=>c ⟨Y (b,.ref b []),[],[],[(b,G p)]⟩ else bo
   |.no=>match g3 ic.tt ic.an g a b r.op with
    |.e4 t D=>c ⟨Y (b,t),[],[],D⟩
    |.part _ I l=>(pick I).bind λp=>c ⟨Y (b,(l p).1),[],[],(l p).2⟩
    |.bad=>bo
  else bo
def nw (b:bm (X×aD)) (a:ahb):bA:=a.all λid=>match aq b id with|some c=>HE c.1|none=>bq
def kh (ic:gU) {A:Type} (e:bM->aj) (b:bm (X×aD)) (c:bQ) (f:cI->bv A):bv A:=
 match mw ic.p4 (uL c) e (rJ c.op) with
 |[]=>ao ic e b c f
 |F=>bif nw b F then ao ic (λh=>iF b F (e h)) (del F b) c λa=>bif a.keep.all (λg=>!eR g.1 F) then f ⟨a.d,F++a.S,a.keep,a.put⟩ else bo else bo
def oh:hq->bA
 |.m _=>bp
 |_=>bq
def JN (ic:gU) (a:bM->aj) (e:bQ):bv (X×bm aZ):=match e.op with
 |.call {callee:=.value z,args:=xs,argTypes:=_}=>match a z with
  |.eA d b=>match sT ic.E2 d (xs.toList.map a++b) with
   |some c=>tj (xs.toList.map a++b) (c.ps.map oh)
   |none=>bo
  |_=>bo
 |_=>bo
def Hg (ic:gU) {A:Type} (id:X) (k:aZ) (j:bm aZ) (c:bM->aj) (l:bm (X×aD)) (p:bQ) (r:cI->bv A):bv A:=
 match p.dst with
 |none=>bo
 |some g=>
  bif gB ic.n ic.pin g then
  match p.op with
  |.call {callee:=.value m,args:=xs,argTypes:=_}=>match c m with
   |.eA o d=>
    match sT ic.E2 o (xs.toList.map c++d) with
    |none=>bo
    |some a=>
     bif bI a.f o then
     match aq l id with
     |none=>bo
     |some h=>match fk h.1 (k::j) with
      |none=>bo
      |some i=>match h4 h.1 h.2 (k::j) i with
       |none=>bo
       |some q=>
        match fM ((id,⟨i,q⟩)::del [id] l) (rH (mH id (xs.toList.map c++d) (a.ps.map oh)) a.ps) a.ps (mH id (xs.toList.map c++d) (a.ps.map oh)) with
        |none=>bo
        |some e=>(a.xU e).bind λb=>bif nv g ⟨[],(id,⟨i,q⟩)::del [id] l⟩ (mH id (xs.toList.map c++d) (a.ps.map oh)) (gK a.ps e b) (iY a.rs (it a.ps b))&&(eR id (gv (mH id (xs.toList.map c++d) (a.ps.map oh)) (gK a.ps e b))&&eR id (mB (mH id (xs.toList.map c++d) (a.ps.map oh)) (gK a.ps e b))) then
         match aq (j8 (mH id (xs.toList.map c++d) (a.ps.map oh)) (gK a.ps e b)++i5 g (iW (iY a.rs (it a.ps b))) 0 (iY a.rs (it a.ps b))) id with
         |none=>bo
         |some s=>match h2 i s.2 with
          |none=>bo
          |some t=>(mF h.1 h.2 (k::j) i t).bind λm=>
           r ⟨Y (g,vg g (iY a.rs (it a.ps b))),gv (mH id (xs.toList.map c++d) (a.ps.map oh)) (gK a.ps e b),(id,k::j)::xi (mB (mH id (xs.toList.map c++d) (a.ps.map oh)) (gK a.ps e b)),(id,⟨h.1,m⟩)::(j8 (mH id (xs.toList.map c++d) (a.ps.map oh)) (gK a.ps e b)++i5 g (iW (iY a.rs (it a.ps b))) 0 (iY a.rs (it a.ps b)))⟩
         else bo
     else bo
   |_=>bo
  |_=>bo
  else bo
def IE (ic:gU) (b:bM->aj) (c:bQ):bv ep:=match c.dst,c.op with
 |some a,.binOp .eql d e g _=>match gY ic.tt d,b e,b g with
  |some _,.val (.a6 _ h) f,.df (.slice bo 0 0)=>bif gB ic.n ic.pin a then Y (a,ahn (α:=h.den) f) else bo
  |_,_,_=>bo
 |_,_=>bo
def Nm (tt:bm (bF×ai)) (a:bF):bA:=match aq tt a with|some (.ptr _ _)=>bp|_=>bq
def ID (b:bm (X×aD)):aj->bv bA
 |.val (.ptr _ a) d=>Y (Option.isNone (α:=a.den) d)
 |.ref id c=>match aq b id with
  |some a=>match fk a.1 c with
   |some (.optr _)=>Y bq
   |_=>bo
  |none=>bo
 |_=>bo
def zL:ai->bA
 |.nil=>bp
 |.pr (.int _) a=>zL a
 |_=>bq
def sD:(a:ai)->a.den->a.den->bA
 |.pr (.int _) d,b,c=>((b.1:Z)==(c.1:Z))&&sD d b.2 c.2
 |_,_,_=>bp
def Dm (ic:gU) (e:bM->aj) (f:bQ):bv (X×bA):=match f.dst,f.op with
 |some d,.binOp .eql c i j _=>match aq ic.tt c,e i,e j with
  |some h,.val (.st a) g,.val k b=>bif eR c ic.eq&&(zL a&&(a9 h (.st a)&&gB ic.n ic.pin d)) then(h2 (τ:=k) (.st a) b).map λb=>(d,sD a g b) else bo
  |_,_,_=>bo
 |_,_=>bo
def Au (ic:gU) (c:bM->aj) (f:bm (X×aD)) (d:bQ):bv (X×bA):=match d.dst,d.op with
 |some a,.binOp g e h i _=>match Nm ic.tt e,ID f (c h),c i with
  |true,Y b,.df (.pointer bo)=>bif gB ic.n ic.pin a then(match g with
   |.eql=>Y (a,b)
   |.neq=>Y (a,!b)
   |_=>bo) else bo
  |_,_,_=>bo
 |_,_=>bo
def JT (ic:gU) (f:bM->aj) (d:bQ):bv (X×tQ×Z):=match d.dst,d.op with
 |some c,.indexAddr e (.global h) g=>match ic.uN.find? (λa=>bI a.b h&&bI a.T e),f g with
  |some a,.val (.int _) i=>bif gB ic.n ic.pin c then Y (c,a,i) else bo
  |_,_=>bo
 |_,_=>bo
def i1 (ic:gU) {A:Type} (a:aM) (b:bQ) (c:aM->bv A):bv A:=
 match JT ic (aU a.g) b with
 |some (d,i,f)=>(al i.xs f).bind λn=>c ⟨(d,.val (.ptr .bh (.int i.k)) (Y n))::a.g,a.h⟩
 |none=>match(Au ic (aU a.g) a.h b).or (Dm ic (aU a.g) b) with
 |some (d,j)=>c ⟨(d,.val .bool j)::a.g,a.h⟩
 |none=>match IE ic (aU a.g) b with
 |some (d,f)=>rv f (c ⟨(d,.val .bool bp)::a.g,a.h⟩) (c ⟨(d,.val .bool bq)::a.g,a.h⟩)
 |none=>match JN ic (aU a.g) b with
  |some (id,m::l)=>Hg ic id m l (aU a.g) a.h b λe=>c (e.app a)
  |_=>kh ic (aU a.g) a.h b λe=>c (e.app a)
def kZ (ic:gU) {A:Type} (c:bU bQ):ahb->aM->(aM->bv A)->bv A
 |[],a,b=>b a
 |i::e,a,b=>match c[i]? with
  |none=>bo
  |some f=>match f.guard with
   |none=>i1 ic a f λk=>kZ ic c e k b
   |some (
    l,tp)=>match(c[l]?).bind (·.dst),f.dst with
    |some j,Y d=>match gt a.g j with
     |.val .bool m=>bif gB ic.n ic.pin d then
      (match m==tp with
      |true=>i1 ic ⟨(j,.val .bool tp)::a.g,a.h⟩ f λk=>kZ ic c e k b
      |false=>kZ ic c e ⟨(d,.df bW)::(j,.val .bool (!tp))::a.g,a.h⟩ b) else bo
     |.df (.tuple _)=>bif gB ic.n ic.pin d then kZ ic c e ⟨(d,.df bW)::a.g,a.h⟩ b else bo
     |_=>bo
    |_,_=>bo
section
variable {E:fy} {C:eZ} {ic:gU} {A:Type}
def gU.ae (E:fy) (C:eZ) (ic:gU):Prop:=ic.tt=E.tt/\ic.n=C.n/\ic.pin=C.pin/\((∀b∈ic.E2,aI E b.2)/\tP C ic.acG/\(∀a∈ic.aB,ye E.P a)/\lg E C.I0 C.w0/\ic.uN=E.glob/\ic.eq=E.eqs)/\px C ic.kg
theorem gB.ok (b:ic.ae E C) {d:X} (a:gB ic.n ic.pin d=bp):C.ok d:=by obtain⟨_,c,e,_,_⟩:=b;rw[c,e] at a;simp only[gB,cC] at a;exact⟨gV a.1,λf=>by grind [hd]⟩
def gN.same {e:ag3} {d:aM} (l:∀b,gt d.g b=gt i.g b) (c:d.h=i.h) (k:gN C i e v):gN C d e v:=by obtain⟨f,m,j,a⟩:=k;exact⟨f,m,j,{a with tree:=by rw[c];exact a.tree,dis:=by rw[c];exact a.dis,tmp:=λb=>by rw[c,l];exact a.tmp b}⟩
def il.same {f:bU bQ} {e:ahb} {a b:aM} {c:aM->Prop} (l:∀d,gt b.g d=gt a.g d) (m:b.h=a.h) (j:il E C f e b c):il E C f e a c:=
 λi n k=>j i n (k.same l m)
def cI.K4 {b:bm (X×bm aZ)}:(cI.mk (Y (a,d)) f b e).app i=⟨(a,d)::ahw f b i.g,e++del f i.h⟩:=by show aM.mk ((a,d)::nF f b i.g) (e++q3 f i.h)=_;rw[sO,w1]
theorem Mh (L:ic.ae E C) {l:bQ} {st:aM} {o:cI->bv A} {s:A} (a:ao ic (aU st.g) st.h l o=Y s):e0 E C l st (λv=>∃c,o c=Y s/\v=c.app st):=by
 obtain⟨B,d9,ek,ds,_⟩:=id L;unfold ao at a;split at a
 ·rename_i i;split at a
  ·grind [acV,acU]
  ·grind [Oh]
  ·rename_i p b ad ap e;rw[B] at a;exact Oh (.inr e) i a
  ·grind [Uv]
  ·rename_i x H e;split at a
   case h_2=>cases a
   rename_i b ad p a3 ao S;rw[B] at a;obtain rfl:x=#[b,ad]:=(by grind);obtain rfl:H=#[p,a3]:=(by grind);grind [W6]
  grind
 rename_i z i;cases U:gB ic.n ic.pin z with
 |false=>grind
 |true=>
 rw[U] at a;have j:=gB.ok L U;simp only[bG] at a;split at a
 ·rename_i d6 b m e;split at a
  case h_2=>cases a
  rename_i q K;have d7:∀y,(q=bp->y=aU st.g b)->(q=bq->y=aU st.g m)->o ⟨Y (z,y),[],[],[]⟩=Y s->e0 E C l st (λv=>∃c,o c=Y s/\v=c.app st):=by
   clear a;intro y ce ci u;refine ah3 (an:=ic.an) i j ?_;rw[e];simp only[g3,Ex,K];refine⟨q,bn,_,u,?_⟩;cases q
   ·rw[ci bn];rfl
   rw[ce bn];rfl
  split at a
  ·rename_i d5 fn fs ap el V;split at a
   case h_2=>cases a
   rename_i d4 d0;cases kf d0;grind
  grind
 ·rename_i fp x _ e;split at a
  case h_2=>cases a
  rename_i J am d2;split at a
  ·cases a
  rename_i I co;cases r:bI I.f J with
  |false=>grind
  |true=>
  rw[r] at a;obtain rfl:=fu r;simp only[bG,nC] at a;obtain⟨d,d8,a⟩:=eO.1 a;obtain⟨q,dl,a⟩:=eO.1 a;cases K:nv z ⟨[],st.h⟩ (x.toList.map (aU st.g)++am) (gK I.ps d q) (iY I.rs (it I.ps q)) with
  |false=>grind
  |true=>
  rw[K] at a;obtain⟨em,c2⟩:=Ic co;obtain⟨cv,c1⟩:=ds.1 _ c2;refine e0.call e d2 i j cv (c1 d q dl) (by grind [Ie,AJ]) L.2.2.2.2.1 L.2.2.2.1.2.2.2.1 ?_ K ⟨_,a,?_⟩
  ·grind [p5,JV]
  rw[cI.K4];rfl
 ·rename_i x H e;split at a
  case h_2=>cases a
  rename_i b m p N ao S;cases r:bI p N with
  |false=>grind
  |true=>
  rw[r] at a;obtain rfl:=fu r;have bl:x=#[b,m]:=(by grind);have bs:H=#[p,p]:=(by grind);grind [SI]
 ·rename_i x H e;split at a
  case h_2=>cases a
  rename_i b m p N ao S;have bl:x=#[b,m]:=(by grind);have bs:H=#[p,N]:=(by grind);grind [e0.copy]
 ·rename_i b e;have O:HV (aU st.g b)=bp->o ⟨Y (z,aU st.g b),[],[],[]⟩=Y s->e0 E C l st (λv=>∃c,o c=Y s/\v=c.app st):=λV u=>by
   refine ah3 (an:=ic.an) i j ?_;rw[e];simp only[g3,V,bG];exact⟨_,u,bn⟩
  have as:(pO ic.an st.h z (aU st.g b)).bind o=Y s->e0 E C l st (λv=>∃c,o c=Y s/\v=c.app st):=λu=>(by obtain⟨c,cs,u⟩:=eO.1 u;exact e0.SP e i j (SQ cs ⟨c,u,bn⟩));split at a
  ·rename_i d5 m t;exact O (by rw[t];rfl) (by grind)
  ·rename_i J am t;exact O (by rw[t];rfl) (by grind)
  ·rename_i id ex t;rintro d w ⟨a0,d3,bx,D⟩ next a4 Q
   have M:=D.aU b;have R:(bL d.eval l).run E.P w=.ok (.value (d.eval b)) w:=(by simp[bL,e]);unfold ahp;rw[R];show next (d.put l.dst (d.eval b)) w
   rw[i];refine Q _ _ _ ⟨_,a,bn⟩ rfl ⟨_,_,_,D.put j ?_⟩;grind
  ·rename_i ap t;split at a
   ·exact O (by rw[t];rfl) (by grind)
   split at a
   ·rename_i T;simp only[cC] at T;obtain⟨m,d1,a⟩:=eO.1 a;rintro d w ⟨a0,d3,bx,D⟩ next a4 Q
    have M:=D.aU b;have R:(bL d.eval l).run E.P w=.ok (.value (d.eval b)) w:=(by simp[bL,e]);unfold ahp;rw[R];show next (d.put l.dst (d.eval b)) w
    rw[i];refine Q _ _ _ ⟨_,a,bn⟩ rfl ⟨_,_,_,D.put j ?_⟩;rw[t] at M;generalize d.eval b=d4 at M;cases M;rw[<-pT.ok T.2];exact .val (pS d1)
   grind
  grind
 ·grind [S5]
 ·grind [Xe]
 ·grind [S8]
 ·grind [Tc]
 split at a
 ·rename_i y k;refine ah3 (an:=ic.an) i j ?_;rw[<-B];exact Ho (by rw[k];exact⟨_,a,bn⟩)
 ·rename_i av m J k;refine ah3 (an:=ic.an) i j ?_;rw[<-B];obtain⟨G,F,a⟩:=eO.1 a;exact Ho (by rw[k];exact⟨G,F,_,a,bn⟩)
 ·rename_i av m fl c k;cases r:bI c z with
  |false=>grind
  |true=>
  rw[r] at a;obtain rfl:=fu r;obtain⟨G,F,a⟩:=eO.1 a;refine ah3 (an:=ic.an) i j ?_;rw[<-B];exact Ho (by rw[k];exact⟨G,F,_,a,bn⟩)
 refine ah3 (an:=ic.an) i j ?_;rw[B] at a;split at a
 ·rename_i y eq k;rw[k];exact⟨_,a,bn⟩
 ·rename_i av ft J k;rw[k];obtain⟨G,F,a⟩:=eO.1 a;exact⟨G,aaV F,_,a,bn⟩
 grind
theorem e0.mono {P:aM->Prop} (e:e0 E C h i P) (j:∀a,P a->u a):e0 E C h i u:=
 λc l f next b g=>e c l f next b (λa d m k=>g a d m (j a k))
theorem ab7 (b:k2 g d=bp):∃id,d.ids=[id]/\∃a∈g,a.1=id:=by
 have e:∀(id:X) (f:X×bm aZ->bA),(g.any λa=>bI a.1 id&&f a)=bp->∃a∈g,a.1=id:=(by intro id f k;obtain⟨a,h,i⟩:=py.1 k;simp only[cC] at i;grind [ahZ]);cases d with
 |ref id c=>
  cases c with
  |nil=>
   obtain⟨a,h,j⟩:=py.1 (show(g.any λa=>bI a.1 id)=bp from b);exact⟨id,bn,a,h,fu j⟩
  |cons n c=>exact⟨id,bn,e id _ b⟩
 |addr id c=>exact⟨id,bn,e id _ b⟩
 |view id c m l=>exact⟨id,bn,e id _ b⟩
 |_=>cases b
theorem Fc:d.fm (f++w)=(d.fm f||d.fm w):=by simp only[ahs];rw[vF];simp only[py,jl];grind [hd,alM,ajV]
theorem LH {b:bm aj}:(aj.eA a b).fm f=b.any λc=>c.fm f:=by
 show(aic b).any _=_
 induction b with
 |nil=>rfl
 |cons c b d=>grind [aic,ahs]
theorem P6 (b:d.fm w=bq):kj (w++f) g d=kj f g d:=by
 cases d with
 |eA m p=>
  rw[LH,tE] at b;rw[vF];simp only[kj,g0];constructor<;>intro i e h<;>have:=i e h<;>rw[Fc,Bool.eq_false_iff.2 (b e h)] at*<;>simpa using this
 |app id q s r c=>
  have j:=J8 b;have o:∀a∈c,eR a (w++f)=eR a f:=λa k=>(by have n:a∉w:=j a (g6 _ k);rw[vF,hd,hd,h8];grind);have l:(c.all λa=>!(eR a (w++f)))=c.all λa=>!(eR a f):=(by grind);grind [kj]
 |_=>rfl
theorem Wa {F S:ahb} {keep:bm (X×bm aZ)} {a:aj}:fd (F++S) keep a=.dead\/(a.fm F=bq/\fd (F++S) keep a=fd S keep a)\/(kj (F++S) keep a=bp/\fd (F++S) keep a=a):=by grind [P6,Fc,kj,fd]
theorem nw.ok (b:nw e f=bp):∀id∈f,∃a,aq e id=Y a/\HE a.1=bp:=by intro id c;have:=g0.1 b id c;grind
theorem Mj (bx:ic.ae E C) {L:bQ} {O:cI->bv A} {am:A} (e:kh ic (aU i.g) i.h L O=Y am):e0 E C L i (λN=>∃b,O b=Y am/\N=b.app i):=by
 unfold kh at e;split at e
 ·grind [Mh]
 generalize mw ic.p4 (uL L) (aU i.g) (rJ L.op)=c at e;cases T:nw i.h c with
 |false=>grind
 |true=>
 rw[T] at e;simp only[bG] at e;rw[<-Vs c i] at e;have m:=Mh (st:=sJ c i) bx e;intro j c1 M next an ci
 obtain⟨dl,d6,ds,M⟩:=M;refine m j c1 (M.freeze (nw.ok T)) next an (λd7 ap c2 cs bl a0=>?_)
 obtain⟨b,U,rfl⟩:=cs;cases V:b.keep.all (λl=>!eR l.1 c) with
 |false=>grind
 |true=>
 rw[V] at U;have V:∀l∈b.keep,l.1∉c:=λl q ce=>(by grind [hd,aij]);refine ci _ ap c2 ⟨_,U,bn⟩ bl (a0.NF ?_ ?_)
 ·intro B;have r:∀j:aj,fd (c++b.S) b.keep j=.dead\/fd (c++b.S) b.keep j=fd b.S b.keep (gX i.h c j):=by
   intro j;rcases Wa (F:=c) (S:=b.S) (keep:=b.keep) (a:=j) with e|⟨m,y⟩|⟨m,y⟩
   ·grind
   ·right;rw[y];rcases mv i.h c j with⟨id,p,rfl,cv,_⟩|⟨_,o⟩|⟨o,_⟩
    ·grind [hd,ahs,bT]
    ·grind
    grind
   have co:∀(id:X),(∃k∈b.keep,k.1=id)->eR id c=bq:=λid ⟨k,z,b⟩=>(by grind);have u:kj (c++b.S) b.keep j=kj b.S b.keep j->∀(id:X),j.ids=[id]->(∃k∈b.keep,k.1=id)->fd (c++b.S) b.keep j=.dead\/fd (c++b.S) b.keep j=fd b.S b.keep (gX i.h c j):=by
    intro d1 id d3 z;have ad:j.fm c=bq:=(by grind [ahs]);right;rcases mv i.h c j with⟨l,p,rfl,cv,_⟩|⟨_,o⟩|⟨o,_⟩
    ·grind [hd,ahs,bT]
    ·grind
    grind [fd,kj]
   have w:∀(id:X) (P:X×bm aZ->bA),(b.keep.any λk=>bI k.1 id&&P k)=bp->∃k∈b.keep,k.1=id:=(by intro id P bs;obtain⟨k,z,y⟩:=py.1 bs;simp only[cC] at y;grind [ahZ]);cases j with
   |ref id f=>
    cases f with
    |nil=>
     obtain⟨k,z,G⟩:=py.1 (show(b.keep.any λk=>bI k.1 id)=bp from m);exact u bn id bn ⟨k,z,fu G⟩
    |cons N f=>exact u bn id bn (w id _ m)
   |addr id f=>exact u bn id bn (w id _ m)
   |view id f D q=>exact u bn id bn (w id _ m)
   |eA t n=>
    have a3:=g0.1 m;have ad:(aj.eA t n).fm c=bq:=(by rw[LH,tE];grind [ab7,Fc,id,ahs,ao]);right;rcases mv i.h c (.eA t n) with⟨l,p,ax,_⟩|⟨_,o⟩|⟨o,_⟩
    ·cases ax
    ·grind
    rw[o,y];unfold fd;have d0:kj b.S b.keep (.eA t n)=bp:=g0.2 λav a4=>(by have G:=a3 av a4;rw[Fc,Bool.not_or,jl,cC] at G;grind);grind
   |app id f v x s=>
    have R:((s.all λl=>!(eR l (c++b.S)))&&b.keep.any λk=>bI k.1 id&&kV k.2 f)=bp:=m;rw[cC] at R;have d2:=co id (w id _ R.2);have ad:(aj.app id f v x s).fm c=bq:=by
     unfold ahs;rw[tE];intro l q ce;rcases fR.1 (show l∈id::s from q) with rfl|q
     ·grind
     grind [aij,hd,alM]
    right;rcases mv i.h c (.app id f v x s) with⟨l,p,ax,_⟩|⟨_,o⟩|⟨o,_⟩
    ·cases ax
    ·grind
    grind [P6,fd]
   |hA j=>
    have m:k2 b.keep j=bp:=m;cases j with
    |ref id f=>
     cases f with
     |nil=>
      obtain⟨k,z,G⟩:=py.1 (show(b.keep.any λk=>bI k.1 id)=bp from m);exact u bn id bn ⟨k,z,fu G⟩
     |cons N f=>exact u bn id bn (w id _ m)
    |addr id f=>exact u bn id bn (w id _ m)
    |view id f D q=>exact u bn id bn (w id _ m)
    |_=>cases m
   |_=>cases m
  have d4:∀j:aj,x4 (fH (c++b.S) b.keep j) (fH b.S b.keep (iF i.h c j)):=by
   intro j;cases j with
   |ff n=>
    refine .inr (.inr ⟨_,_,bn,bn,ac,λl k d9 m y=>?_⟩);grind
   |ref id f=>
    have o:=r (.ref id f);have ao:fH b.S b.keep (iF i.h c (.ref id f))=fd b.S b.keep (gX i.h c (.ref id f)):=by show fH b.S b.keep (gX i.h c (.ref id f))=_;rcases mv i.h c (.ref id f) with⟨l,p,_,_,_,e⟩|⟨e,_⟩|⟨e,_⟩<;>rw[e]<;>first|rfl|grind [Vt]
    rw[ao];exact o.imp (λe=>e) .inl
   |dead=>exact(r .dead).imp (λe=>e) .inl
   |val v k=>exact .inr (.inl (by
    simp[fd,gX,iF,fH,ahs,bT]))
   |df d8=>exact .inr (.inl (by
    simp[fd,gX,iF,fH,ahs,bT]))
   |addr id f=>
    have ao:fH b.S b.keep (iF i.h c (.addr id f))=fd b.S b.keep (gX i.h c (.addr id f)):=by show fH b.S b.keep (gX i.h c (.addr id f))=_;rcases mv i.h c (.addr id f) with⟨l,p,_,_,_,e⟩|⟨e,_⟩|⟨e,_⟩<;>rw[e]<;>first|rfl|grind
    rw[ao];exact(r _).imp (λe=>e) .inl
   |view id f D q=>
    have ao:fH b.S b.keep (iF i.h c (.view id f D q))=fd b.S b.keep (gX i.h c (.view id f D q)):=by show fH b.S b.keep (gX i.h c (.view id f D q))=_;rcases mv i.h c (.view id f D q) with⟨l,p,_,_,_,e⟩|⟨e,_⟩|⟨e,_⟩<;>rw[e]<;>first|rfl|grind
    rw[ao];exact(r _).imp (λe=>e) .inl
   |ent id f K=>
    have ao:fH b.S b.keep (iF i.h c (.ent id f K))=fd b.S b.keep (gX i.h c (.ent id f K)):=by show fH b.S b.keep (gX i.h c (.ent id f K))=_;rcases mv i.h c (.ent id f K) with⟨l,p,_,_,_,e⟩|⟨e,_⟩|⟨e,_⟩<;>rw[e]<;>first|rfl|grind
    rw[ao];exact(r _).imp (λe=>e) .inl
   |app id f v x s=>
    have ao:fH b.S b.keep (iF i.h c (.app id f v x s))=fd b.S b.keep (gX i.h c (.app id f v x s)):=by show fH b.S b.keep (gX i.h c (.app id f v x s))=_;rcases mv i.h c (.app id f v x s) with⟨l,p,_,_,_,e⟩|⟨e,_⟩|⟨e,_⟩<;>rw[e]<;>first|rfl|grind
    rw[ao];exact(r _).imp (λe=>e) .inl
   |agg n=>
    have ao:fH b.S b.keep (iF i.h c (.agg n))=fd b.S b.keep (gX i.h c (.agg n)):=by show fH b.S b.keep (gX i.h c (.agg n))=_;rcases mv i.h c (.agg n) with⟨l,p,_,_,_,e⟩|⟨e,_⟩|⟨e,_⟩<;>rw[e]<;>first|rfl|grind
    rw[ao];exact(r _).imp (λe=>e) .inl
   |eA t n=>
    have ao:fH b.S b.keep (iF i.h c (.eA t n))=fd b.S b.keep (gX i.h c (.eA t n)):=by show fH b.S b.keep (gX i.h c (.eA t n))=_;rcases mv i.h c (.eA t n) with⟨l,p,_,_,_,e⟩|⟨e,_⟩|⟨e,_⟩<;>rw[e]<;>first|rfl|grind
    rw[ao];exact(r _).imp (λe=>e) .inl
   |hA j=>
    have ao:fH b.S b.keep (iF i.h c (.hA j))=fd b.S b.keep (gX i.h c (.hA j)):=by show fH b.S b.keep (gX i.h c (.hA j))=_;rcases mv i.h c (.hA j) with⟨l,p,_,_,_,e⟩|⟨e,_⟩|⟨e,_⟩<;>rw[e]<;>first|rfl|grind
    rw[ao];exact(r _).imp (λe=>e) .inl
  show x4 (gt (cI.app ⟨b.d,c++b.S,b.keep,b.put⟩ i).g B) (gt (b.app (sJ c i)).g B);obtain⟨J,H,I,d5⟩:=b;cases J with
  |none=>
   show x4 (gt (nF (c++H) I i.g) B) (gt (nF H I (sJ c i).g) B);grind [sO,p6,DC]
  |some o=>
   obtain⟨J,Q⟩:=o;show x4 (gt ((J,Q)::nF (c++H) I i.g) B) (gt ((J,Q)::nF H I (sJ c i).g) B);rw[iV,iV];split
   ·exact .inr (.inl bn)
   grind [sO,p6,DC]
 intro id;show aq (b.put++q3 (c++b.S) i.h) id=aq (b.put++q3 b.S (del c i.h)) id;grind [w1,kH,mZ]
theorem Ud (m:ic.ae E C) {p:bQ} {id:X} {k:aZ} (bs:JN ic (aU i.g) p=Y (id,k::j)) {q:cI->bv A} {y:A} (a:Hg ic id k j (aU i.g) i.h p q=Y y):e0 E C p i (λk=>∃r,q r=Y y/\k=r.app i):=by
 have R:=λc=>gB.ok m (d:=c);have M:=m.2.2.2.2.1;have N:=m.2.2.2.1.2.2.2.1;obtain⟨bx,_,_,V,_⟩:=m;unfold Hg at a;split at a
 ·cases a
 rename_i c I;cases w:gB ic.n ic.pin c with
 |false=>grind
 |true=>
 rw[w] at a;have J:=R c w;simp only[bG] at a;split at a
 case h_2=>cases a
 rename_i a4 B cv P;split at a
 case h_2=>cases a
 rename_i F x an;split at a
 ·cases a
 rename_i b G;cases u:bI b.f F with
 |false=>grind
 |true=>
 rw[u] at a;obtain rfl:=fu u;simp only[bG] at a;split at a
 ·cases a
 rename_i co T;split at a
 ·cases a
 rename_i a3 ce;split at a
 ·cases a
 rename_i av ad;split at a
 ·cases a
 rename_i l bl;obtain⟨e,Q,a⟩:=eO.1 a;have S:tj (B.toList.map (aU i.g)++x) (b.ps.map oh)=Y (id,k::j):=(by grind [JN]);generalize H:mH id (B.toList.map (aU i.g)++x) (b.ps.map oh)=o at*;cases v:nv c ⟨[],(id,⟨a3,av⟩)::del [id] i.h⟩ o (gK b.ps l e) (iY b.rs (it b.ps e)) with
 |false=>grind
 |true=>
 rw[v] at a;cases s:eR id (gv o (gK b.ps l e)) with
 |false=>grind
 |true=>
 rw[s] at a;cases t:eR id (mB o (gK b.ps l e)) with
 |false=>grind
 |true=>
 rw[t] at a;simp only[Bool.and_self,bG] at a;split at a
 ·cases a
 rename_i cs U;split at a
 ·cases a
 rename_i D am;obtain⟨a0,ap,a⟩:=eO.1 a;obtain⟨ci,O⟩:=Ic G;obtain⟨K,L⟩:=V.1 _ O;refine e0.sub P an I J K (L l e Q) (by grind [Ie,AJ]) M N T (iR ad) S H.symm ?_ v (hd.1 s) (hd.1 t) (y':=D) (z:=a0) ?_ (m6 ap) ⟨_,a,?_⟩
 ·grind [p5,JV]
 ·rw[U];exact b3 Y (kf am)
 rw[cI.K4]
def acm (b:bD) (e:X) (a:bv Addr) (g d:X) (f:p.underlying c=Y (.slice r)):(aik (e+1) c (.slice a g d) (.slice bo 0 0)).run p b=.ok a.isNone b:=by cases a<;>simp[aik,b7 f]
theorem acj (b:bD) (a:bv Addr) (e d:X) (f:p.underlying c=Y (.slice r)):(ahq .eql c (.slice a e d) (.slice bo 0 0)).run p b=.ok (.bool a.isNone) b:=by simp_all [acm,ai2,ai3,ahq]
theorem XA (s:ic.ae E C) {x:bQ} (b:IE ic (aU i.g) x=Y (a,m)):e0 E C x i (λR=>∃c:bA,R=⟨(a,.val .bool c)::i.g,i.h⟩/\(c=bp->m=0)):=by
 unfold IE at b;split at b
 case h_2=>cases b
 rename_i D A j k a3 H J;split at b
 case h_2=>cases b
 rename_i a0 ap z y r F G;cases t:gB ic.n ic.pin D with
 |false=>grind
 |true=>
 rw[t] at b;simp only[bG,eU,im] at b;obtain⟨rfl,rfl⟩:=b;rw[s.1] at r;obtain⟨_,T,_,K,_⟩:=gY.ok r;rintro e f ⟨S,av,V,l⟩ next U an
 have o:=l.aU j;have p:=l.aU k;rw[F] at o;rw[G] at p;obtain⟨d,u⟩:∃d,d=e.eval j:=⟨_,bn⟩;obtain⟨fv,w⟩:∃d,d=e.eval k:=⟨_,bn⟩;rw[<-u] at o;rw[<-w] at p;cases o with|val O=>cases p with|df _=>
 obtain⟨_,c,q,rfl,ad,am,_⟩:=O;have L:e.eval j=.slice c (ahn (α:=z.den) y) q:=u.symm;have M:e.eval k=.slice bo 0 0:=w.symm;have I:∀f,(aia .eql A j k (.slice c (ahn (α:=z.den) y) q) (.slice bo 0 0)).run E.P f=.ok () f:=λf=>(by unfold aia;simp);refine ajf (Q:=λB N=>B=.val .bool c.isNone/\N=[]) l (.pure (v:=.bool _) (by simp only[bL,J,L,M,bY,I,b1,acj _ _ _ _ K];rfl) (.bool _) ⟨bn,bn⟩) H (gB.ok s t) ?_;grind
def adi {d:X} {f:cx} (i:E.P.underlying r=Y (.array d c)) (g:fi E.P (.int f) c) {b:Act} (k:h.op=.indexAddr r (.global m) n) {p:cx} (j:b.eval n=.int p a) (q:a<d):(bL b.eval h).run E.P v=.ok (.value (.pointer (Y ⟨m,0+a*1,bo⟩))) v:=by have e:=g.sizeOf v;have o:b.eval (.global m)=.pointer (Y ⟨m,0,bo⟩):=rfl;have:(0:Z)<=(a:Z)/\(a:Z)<(d:Z):=⟨aa,aa⟩;have l:(ai.int f).size=1:=rfl;rw[l] at e;simp[bL,k,o,j,Instr.indexAt,aiE,ail,b7 i,this,e,ah9];omega
theorem ade (e:ic.ae E C) {A:bQ} {r:tQ} {z f:Z} (c:JT ic (aU i.g) A=Y (a,r,z)) (V:al r.xs z=Y f):e0 E C A i (λap=>ap=⟨(a,.val (.ptr .bh (.int r.k)) (Y f))::i.g,i.h⟩):=by
 unfold JT at c;split at c
 case h_2=>cases c
 rename_i F a3 co p R S;split at c
 case h_2=>cases c
 rename_i d y q v M;cases w:gB ic.n ic.pin F with
 |false=>grind
 |true=>
 rw[w] at c;simp only[bG,eU,im] at c;obtain⟨rfl,rfl,rfl⟩:=c;have l:=List.find?_some v;have o:=akP v;rw[cC] at l;obtain rfl:=fu l.1;obtain rfl:=fu l.2;rw[e.2.2.2.1.2.2.2.2.1] at o;obtain⟨a0,P,O⟩:=E.gok d o;rintro s ds ⟨av,c2,ce,j⟩ next a4 ci
 have m:=j.aU p;rw[M] at m;generalize T:s.eval p=dl at m;cases m with|val an=>
 obtain⟨_,rfl⟩:=an;obtain⟨ao,K,L⟩:=MX V;obtain⟨_,bl,bx,u,ax,c1,B⟩:=j.glob e.2.2.2.2.1 e.2.2.2.1.2.2.2.1 d o;simp only[hP,ahm,b8] at u;obtain⟨rfl,_⟩:=u;rcases B with B|⟨bs,cv,t,N,am⟩
 ·grind
 simp only[eU,ahB,b8] at t;obtain⟨rfl,rfl⟩:=t;obtain⟨J,G,H,I⟩:=am _ _ L;have U:s.eval p=.int y (q.toNat:X):=(by rw[T];show ahr y q=_;grind);refine ajf (Q:=λD ad=>D=.val (.ptr .bh (.int d.k)) (Y f)/\ad=[]) j (.pure (adi P O S U K) (.val (τ:=.ptr .bh (.int d.k)) (x:=Y f) (cs:=[.pointer (Y ⟨d.b,0+q.toNat*1,bo⟩)]) ⟨bn,d.b,_,J,bn,N,G,H,I⟩) ⟨bn,bn⟩) R (gB.ok e w) ?_;grind
def Qh (b:bD) (d:X) (a:bv Addr) (e:p.underlying c=Y (.pointer r)):(aik (d+1) c (.pointer a) (.pointer bo)).run p b=.ok a.isNone b:=by cases a<;>simp[aik,b7 e]
theorem ack (b:bD) (a:bv Addr) (d:p.underlying c=Y (.pointer r)):(ahq .eql c (.pointer a) (.pointer bo)).run p b=.ok (.bool a.isNone) b:=by simp_all [Qh,ai2,ai3,ahq]
theorem acn (b:bD) (a:bv Addr) (d:p.underlying c=Y (.pointer r)):(ahq .neq c (.pointer a) (.pointer bo)).run p b=.ok (.bool (!a.isNone)) b:=by simp_all [Qh,ai2,ai3,ahq]
theorem Xw {f:Act} (m:cM C i f.tmps v O x y) {c:bA} (a:ID i.h (aU i.g n)=Y c):∃l:bv Addr,f.eval n=.pointer l/\l.isNone=c:=by
 have b:=m.aU n;obtain⟨v1,d⟩:∃k,k=f.eval n:=⟨_,bn⟩;rw[<-d] at b;unfold ID at a;split at a
 ·rename_i D z k j;rw[j] at b;cases b with|val e=>
  obtain⟨_,e⟩:=e;cases a;cases k with
  |none=>subst e;exact⟨bo,d.symm,bn⟩
  |some G=>obtain⟨r,u,s,rfl,_⟩:=e;exact⟨Y ⟨r,u,bo⟩,d.symm,bn⟩
 ·rename_i id E j;split at a
  case h_2=>cases a
  rename_i z p;split at a
  case h_2=>cases a
  rename_i F t;cases a;rw[j] at b;cases b with|ref q o=>
  rw[p] at q;cases q;have:=o.ty;rw[t] at this;cases this;obtain⟨c,w,s,rfl,A,B⟩:=pd (m.tree id _ p).1 o;exact⟨Y ⟨c,w,bo⟩,d.symm,bn⟩
 grind
theorem aa8 (p:ic.ae E C) {F:bQ} {m:bA} (b:Au ic (aU i.g) i.h F=Y (a,m)):e0 E C F i (λO=>O=⟨(a,.val .bool m)::i.g,i.h⟩):=by
 unfold Au at b;split at b
 case h_2=>cases b
 rename_i J d k R f av u y;split at b
 case h_2=>cases b
 rename_i I o K L;cases q:gB ic.n ic.pin J with
 |false=>grind
 |true=>
 rw[q] at b;simp only[bG] at b;have M:∃j,E.P.underlying k=Y (.pointer j):=by
  rw[p.1] at o;unfold Nm at o;split at o
  ·rename_i am ap N;obtain⟨_,j,_,_,_,_,V,_⟩:=E.ok k _ N;grind
  grind
 obtain⟨j,z⟩:=M;rintro t e ⟨S,an,U,c⟩ next T ad
 have r:=c.aU f;rw[L] at r;obtain⟨fv,B⟩:∃G,G=t.eval f:=⟨_,bn⟩;rw[<-B] at r;cases r with|df _=>
 obtain⟨H,A,x⟩:=Xw c K;have D:t.eval f=.pointer bo:=B.symm;have w:∀d e,(aia d k R f (.pointer H) (.pointer bo)).run E.P e=.ok () e:=λd e=>(by unfold aia;cases d<;>simp);split at b
 ·cases b;refine ajf (Q:=λl s=>l=.val .bool m/\s=[]) c (.pure (v:=.bool _) (by simp only[bL,y,A,D,bY,w,b1,ack _ _ z,x];rfl) (.bool _) ⟨bn,bn⟩) u (gB.ok p q) ?_;grind
 ·cases b;refine ajf (Q:=λl s=>l=.val .bool (!I)/\s=[]) c (.pure (v:=.bool _) (by simp only[bL,y,A,D,bY,w,b1,acn _ _ z,x];rfl) (.bool _) ⟨bn,bn⟩) u (gB.ok p q) ?_;grind
 grind
def Mt {P:b0} {M:eD->X->Prop} {w w0:bD} {d:X}:∀{t:ai} {fs:bm ahC} {off:X} {b:ag5} {xs ys:ag3} {p q:t.den},zL t=bp->iI P t fs off b->(fs.all λf=>f.name !="_")=bp->aS M w0 t (xs.toList.drop off) p []->aS M w0 t (ys.toList.drop off) q []->(ajZ (d+1) xs ys fs).run P w=.ok (sD t p q) w
 |.nil,[],_,_,_,_,_,_,_,_,_,_,_=>by simp[ajZ,sD]
 |.nil,_::_,_,_,_,_,_,_,_,c,_,_,_=>c.elim
 |.pr i e,[],_,_,_,_,_,_,_,c,_,_,_=>c.elim
 |.pr i e,f::fs,off,b,xs,ys,p,q,a,c,h,A,B=>by
  cases i<;>simp only[zL] at a<;>try (cases a;done)
  rename_i L;obtain⟨v,k,J,_,x⟩:=c;simp only[rU,cC,bne_iff_ne,ne_eq] at h;obtain⟨G,f2,o,E,m⟩:=A;obtain⟨H,I,r,F,n⟩:=B;obtain⟨rfl,rfl⟩:=akr.1 o.symm;obtain⟨rfl,rfl⟩:=akr.1 r.symm;have j:∀(b:ag3) (g:Value),(b.toList.drop off).take 1=[g]->(part f.type b f.offset).run P w=.ok g w:=λb g z=>(by have C:b[off]?=Y g:=(by have:=b3 (·[0]?) z;simpa[ajF,pD] using this);simp only[part,bY,k.isAgg,b1,v,C,o9];rfl);have s:=j xs _ E.2;have u:=j ys _ F.2;obtain⟨K,_,_,_,_,y⟩:=k;have D:=Mt (P:=P) (M:=M) (w:=w) (w0:=w0) (d:=d) (t:=e) (fs:=fs) (off:=off+1) (xs:=xs) (ys:=ys) (p:=p.2) (q:=q.2) a x (by simpa using h.2)
   (by rw[qv] at m;exact m) (by rw[qv] at n;exact n)
  simp only[ajZ,h.1,not_false_eq_true,cg,ne_eq,bY,s,u,b1,run_equalIn_int _ _ _ _ _ _ _ y];show Sem.run P (if(!((p.1:Z)==(q.1:Z)))=bp then pure bq else ajZ (d+1) xs ys fs) w=_;cases l:((p.1:Z)==(q.1:Z)) with
  |true=>
   rw[aw ac,D];show _=alN (((p.1:Z)==(q.1:Z))&&sD e p.2 q.2) w;rw[l,ajd]
  |false=>
   rw[au ac];show _=alN (((p.1:Z)==(q.1:Z))&&sD e p.2 q.2) w;rw[l,akH];rfl
 |.int _,_,_,_,_,_,_,_,a,_,_,_,_=>by cases a
 |.bool,_,_,_,_,_,_,_,a,_,_,_,_=>by cases a
 |.str,_,_,_,_,_,_,_,a,_,_,_,_=>by cases a
 |.a6 _ _,_,_,_,_,_,_,_,a,_,_,_,_=>by cases a
 |.ptr _ _,_,_,_,_,_,_,_,a,_,_,_,_=>by cases a
 |.osl _,_,_,_,_,_,_,_,a,_,_,_,_=>by cases a
 |.optr _,_,_,_,_,_,_,_,a,_,_,_,_=>by cases a
 |.st _,_,_,_,_,_,_,_,a,_,_,_,_=>by cases a
 |.eK,_,_,_,_,_,_,_,a,_,_,_,_=>by cases a
 |.mp _,_,_,_,_,_,_,_,a,_,_,_,_=>by cases a
 |.fw _ _,_,_,_,_,_,_,_,a,_,_,_,_=>by cases a
 |.fn _ _,_,_,_,_,_,_,_,a,_,_,_,_=>by cases a
theorem Uw (o:ic.ae E C) {H:bQ} {w:bA} (b:Dm ic (aU i.g) H=Y (a,w)):e0 E C H i (λco=>co=⟨(a,.val .bool w)::i.g,i.h⟩):=by
 unfold Dm at b;split at b
 case h_2=>cases b
 rename_i R c s u d6 ap a0;split at b
 case h_2=>cases b
 rename_i cs e I d8 d0 B U V;cases j:eR c ic.eq&&(zL e&&(a9 cs (.st e)&&gB ic.n ic.pin R)) with
 |false=>rw[j] at b;cases b
 |true=>
 rw[j,bG] at b;obtain⟨J,a3,b⟩:=fB.1 b;cases b;simp only[cC] at j;obtain⟨L,M,N,O⟩:=j;rw[o.1] at B;have am:=(E.ok c _ B).lay N;have an:=E.eqok c (by rw[<-o.2.2.2.1.2.2.2.2.2];exact hd.1 L);cases kf a3;obtain⟨_,ds,A,d7,ax,d1,d2,d3,r,bx,d4⟩:=am;obtain⟨ao,S,ad,z,T⟩:=an;rw[r] at z;obtain rfl:A=ad:=(by simpa using z);rintro f k ⟨cv,d5,c2,m⟩ next c1 dl
 have p:=m.aU s;have q:=m.aU u;rw[U] at p;rw[V] at q;obtain⟨v1,F⟩:∃l,l=f.eval s:=⟨_,bn⟩;obtain⟨fv,G⟩:∃l,l=f.eval u:=⟨_,bn⟩;rw[<-F] at p;rw[<-G] at q;cases p with|val ce=>cases q with|val ci=>
 rename_i x y;have a4:f.eval s=.agg x.toArray:=F.symm;have bl:f.eval u=.agg y.toArray:=G.symm;have D:E.P.fieldsOf c=A:=(by unfold Program.fieldsOf;rw[r]);have av:(aik 10000 c (.agg x.toArray) (.agg y.toArray)).run E.P k=.ok (sD e I J) k:=(by rw[run_equalIn_struct k 9999 c _ _ (by rw[D];exact r) ao,D];exact Mt (t:=e) (off:=0) (d:=9998) M bx T (by rw[lj];exact ce) (by rw[lj];exact ci));refine ajf (Q:=λK bs=>K=.val .bool (sD e I J)/\bs=[]) m (.pure (v:=.bool _) (by simp only[bL,a0,a4,bl,bY,run_eqGuard_agg k _ _ _ _ _ _ S,b1,run_eql_struct,av];rfl) (.bool _) ⟨bn,bn⟩) ap (gB.ok o O) ?_;grind
theorem Na (j:ic.ae E C) {p:bU bQ} {m:bQ} {q:aM->bv A} {s:A} (k:p[a]?=Y m) (l:kP p i m bp) (c:i1 ic i m q=Y s) (D:∀d,q d=Y s->il E C p f d u):il E C p (a::f) i u:=
by
 unfold i1 at c;split at c
 ·rename_i o H y b;obtain⟨J,x,c⟩:=eO.1 c;refine aiO k l ((ade j b x).mono (λd e=>?_));grind
 split at c
 ·rename_i o n b;have w:Au ic (aU i.g) i.h m=Y (o,n)\/Dm ic (aU i.g) m=Y (o,n):=by
   cases r:Au ic (aU i.g) i.h m with
   |none=>rw[r,Option.none_or] at b;exact .inr b
   |some I=>rw[r,Option.some_or] at b;exact .inl b
  rcases w with b|b
  ·refine aiO k l ((aa8 j b).mono (λd e=>?_));grind
  refine aiO k l ((Uw j b).mono (λd e=>?_));grind
 split at c
 ·rename_i o y b;obtain⟨z,B⟩:=Xz c;refine aiO k l ((XA j b).mono (λd e=>?_));obtain⟨n,rfl,F⟩:=e;cases n with
  |false=>grind
  |true=>grind
 split at c
 ·rename_i id d G e;exact aiO k l ((Ud j e c).mono (λd ⟨t,v,e⟩=>by grind))
 exact aiO k l ((Mj j c).mono (λd ⟨t,v,e⟩=>by grind))
theorem zT {l2:ahb} (d:ic.ae E C) {q:bU bQ} {s:aM->bv A} {y:A} {t:aM->Prop} (f:∀k,s k=Y y->il E C q l2 k t):∀{p:ahb} {b:aM},kZ ic q p b s=Y y->il E C q (p++l2) b t
 |[],b,a=>f _ a
 |i::p,b,a=>by
  simp only[kZ] at a;split at a
  ·cases a
  rename_i H j;split at a
  ·rename_i z;exact Na d j (by grind [kP]) a (λk c=>zT d f c)
  rename_i G l z;split at a
  case h_2=>cases a
  rename_i v u D x;split at a
  case h_3=>cases a
  case h_2=>
   rename_i I B;cases c:gB ic.n ic.pin u with
   |false=>grind
   |true=>
   rw[c] at a;have o:=gB.ok d c;refine il.skip j x o ?_ (zT d f a);grind [kP]
  rename_i m B;cases c:gB ic.n ic.pin u with
  |false=>grind
  |true=>
  rw[c] at a;have o:=gB.ok d c;simp only[bG] at a;split at a
  ·rename_i w;obtain rfl:m=l:=(by grind);have r:∀e,gt (⟨(v,.val .bool m)::b.g,b.h⟩:aM).g e=gt b.g e:=λe=>by
    grind [iV]
   refine il.same r bn (Na d j ?_ a (λk c=>zT d f c));grind [kP]
  rename_i w;have F:m=!l:=by cases m<;>cases l<;>first|rfl|cases w
  have r:∀e,gt (⟨(v,.val .bool (!l))::b.g,b.h⟩:aM).g e=gt b.g e:=λe=>(by grind [iV]);refine il.same r bn (il.skip j x o ?_ (zT d f a));grind [kP]
theorem VT (h:ic.ae E C) {c:bU bQ} {b:aM->bv A} {d:A} (g:∀a,b a=Y d->u a) (e:kZ ic c f i b=Y d):il E C c f i u:=by have:=zT (l2:=[]) h (λa j=>il.nil (g a j)) e;grind
end
end
structure ky (s t:aM):Prop where
 g:∀k,gt s.g k=gt t.g k
 h:∀id,aq s.h id=aq t.h id
def ky.refl (a:aM):ky a a:=⟨λ_=>rfl,λ_=>rfl⟩
def ky.symm {c d:aM} (b:ky c d):ky d c:=⟨λa=>(b.g a).symm,λa=>(b.h a).symm⟩
def ky.trans {d e f:aM} (b:ky d e) (c:ky e f):ky d f:=⟨λa=>(b.g a).trans (c.g a),λa=>(b.h a).trans (c.h a)⟩
def cI.tR (a:cI) (e:aM) (b:X):gt (a.app e).g b=match a.d with
 |some (c,f)=>if c=b then f else fH a.S a.keep (gt e.g b)
 |none=>fH a.S a.keep (gt e.g b):=by
 obtain⟨c,h,i,k⟩:=a;cases c with
 |none=>
  show gt (nF h i e.g) b=_;rw[sO,p6]
 |some j=>
  obtain⟨c,f⟩:=j;show gt ((c,f)::nF h i e.g) b=_;rw[iV,sO,p6]
theorem cI.r9 (a:cI) (b:aM) (id:X):aq (a.app b).h id=(aq a.put id).or (if id∈a.S then bo else aq b.h id):=by show aq (a.put++q3 a.S b.h) id=_;rw[w1,kH,mZ]
def ky.app {c t:aM} (b:ky c t) (a:cI):ky (a.app c) (a.app t):=
 ⟨λd=>by rw[cI.tR,cI.tR,b.g],λd=>by rw[cI.r9,cI.r9,b.h]⟩
def gN.seq {a:eZ} {c:aM} {d:ag3} (b:ky i c) (e:gN a i d v):gN a c d v:=e.less (λf=>.inr (b.g f).symm) (λid=>(b.h id).symm)
def Dh:bv (X×aj)->ag7->bA
 |some b,Y a=>bI b.1 a
 |none,bo=>bp
 |_,_=>bq
def s7:aj->bA
 |.dead=>bq
 |_=>bp
def pk (b c:ahb):bA:=b.all λa=>eR a c
theorem pk.ok (b:pk f w=bp):∀a∈f,a∈w:=λa c=>hd.1 (g0.1 b a c)
def pj (a:ahb):aj->bA
 |.ref id []=>eR (id+500000) a
 |_=>bq
def xh:Op->bA
 |.move _=>bp
 |_=>bq
def DD:X->bm aZ->bv (X×bm aZ)
 |k,.snd::a=>DD (k+1) a
 |k,.fst::a=>Y (k,a)
 |_,_=>bo
def xa:bm aZ->bv (X×bm aZ)
 |.deref::.unst::a=>DD 0 a
 |_=>bo
def sH (q:bm aZ):ag7:=match q with
 |[]=>Y 1
 |[.deref]=>Y 2
 |q=>match xa q with
  |some (a,[])=>Y (2*a+4)
  |some (a,_::_)=>Y (2*a+5)
  |none=>bo
def qT:aj->bv ep
 |.ref id a=>match sH a with
  |some b=>Y (id,b)
  |none=>bo
 |.addr id a=>match sH a with
  |some b=>Y (id,b)
  |none=>bo
 |.app id a _ _ d=>match eR id d,xa a with
  |false,Y (c,_)=>Y (id,2*c+5)
  |_,_=>bo
 |_=>bo
def sS (b:ahb) (a:aj):bA:=match qT a with
 |some (id,d)=>ca id 500000&&(eR (id+1000000*d) b&&a.ids.all λc=>bI c id||eR c b)
 |none=>bq
def xK (b:bm aZ) (a:X):bA:=(bI a 1&&nD b)||((bI a 2&&nD b.tail&&(match b with|.deref::_=>bp|_=>bq))||match xa b with
 |some (c,d)=>b2 4 a&&(!(bI (a/2) (c+2))||(bI (a %2) 0&&nD d))
 |none=>bq)
def r8 (a:bM->aj) (b:bQ):bv (X×bm aZ):=match b.op with
 |.call {callee:=.builtin .append,args:=xs,argTypes:=_}=>match xs.toList with
  |[x,_]=>match a x with
   |.ref id (d::c)=>Y (id,d::c)
   |_=>bo
  |_=>bo
 |_=>bo
def Jb (c:ahb) (b:bM->aj) (d:bQ):bA:=c.all λa=>ca a 1000000||(match r8 b d with
 |some (id,e)=>bI (a %1000000) (id+500000)&&(ca id 500000&&xK e (a/1000000))
 |none=>bq)
def Wf (a:ahb) (c:bm (X×bm aZ)) (b:ahb):bA:=b.all λid=>ca id 500000&&((eR id a&&(eR (id+500000) a||k2 c (.ref id [])))||eR (id+1500000) a)
def Bp:aj->bA
 |.ff b=>b.all s7
 |a=>s7 a
def ot (op:Op) (b:ahb) (a:aj):bA:=match op with
 |.extract _ d=>match a with
  |.ff e=>match e[d]? with
   |some c=>s7 c&&(pk c.ids b||pj b c)
   |none=>bq
  |_=>bq
 |op=>Bp a&&(pk a.ids b||((xh op&&pj b a)||sS b a))
def re (c e:ahb) (g:bM->aj) (f:bQ) (b:cI):bA:=
 Dh b.d f.dst&&(f.op.operands.toList.all λh=>ot f.op c (g h))&&Wf e b.keep b.S&&(b.put.all λa=>ca a.1 500000&&(eR a.1 e||eR (a.1+1500000) e))&&((match b.d with|some a=>pk a.2.ids c||(pj c a.2||sS c a.2)|none=>bp)&&Jb e g f)
theorem qU {e:Type} (c:bA) (d:bv b) (a:b->bv e):(bif c then d else bo).bind a=bif c then d.bind a else bo:=by grind
theorem acS (tt:bm (bF×ai)) (d:bm (X×aD)) (c:bF) (f e:aj) (a:cI->bv b):rG tt d c f e a=(rG tt d c f e Y).bind a:=by
 unfold rG;split
 ·rfl
 split
 case h_2=>rfl
 split
 ·rfl
 rw[qU];congr 1;split
 ·grind
 ·grind
 grind
theorem Ix (tt:bm (bF×ai)) (d:bm (X×aD)) (c:bF) (g e f:aj) (a:cI->bv b):oj tt d c g e f a=(oj tt d c g e f Y).bind a:=by
 unfold oj;split
 case h_2=>rfl
 split
 case h_2=>rfl
 split
 case h_2=>rfl
 split
 case h_2=>rfl
 grind
theorem Xb (tt:bm (bF×ai)) (e:bm (X×aD)) (d:X) (c:bF) (g f:aj) (a:cI->bv b):rr tt e d c g f a=(rr tt e d c g f Y).bind a:=by
 unfold rr;split
 case h_2=>rfl
 split
 case h_2=>rfl
 split
 case h_2=>rfl
 split
 case h_2=>rfl
 split
 case h_2=>rfl
 grind
theorem Ut (tt:bm (bF×ai)) (d:bm (X×aD)) (c:bF) (g e f:aj) (a:cI->bv b):q7 tt d c g e f a=(q7 tt d c g e f Y).bind a:=by
 unfold q7;split
 case h_2=>rfl
 rw[qU,Ix]
theorem W4 (tt:bm (bF×ai)) (d:bm (X×aD)) (c:bF) (f e:aj) (a:cI->bv b):rq tt d c f e a=(rq tt d c f e Y).bind a:=by
 unfold rq;split
 case h_2=>rfl
 split
 case h_2=>rfl
 split
 case h_2=>rfl
 split
 case h_2=>rfl
 grind
theorem SD (tt:bm (bF×ai)) (d:bm (X×ai)) (f:bm (X×aD)) (e:X) (c:bF) (g h:aj) (a:cI->bv b):oX tt d f e c g h a=(oX tt d f e c g h Y).bind a:=by
 unfold oX;split
 ·rfl
 split
 ·split
  case h_2=>rfl
  rw[qU];congr 1;split
  ·grind
  grind
 ·split
  case h_2=>rfl
  split
  case h_2=>rfl
  grind
 ·split
  case h_2=>rfl
  grind
 ·grind
 rfl
theorem SG (tt:bm (bF×ai)) (d:bm (X×ai)) (f:bm (X×aD)) (e:X) (c:bF) (g h:aj) (a:cI->bv b):n6 tt d f e c g h a=(n6 tt d f e c g h Y).bind a:=by
 unfold n6;split
 ·unfold yA;split
  case h_2=>rfl
  split
  case h_2=>rfl
  grind
 grind [SD]
theorem TM (tt:bm (bF×ai)) (e:bm (X×aD)) (d:X) (c:bF) (f g:aj) (a:cI->bv b):qV tt e d c f g a=(qV tt e d c f g Y).bind a:=by
 unfold qV;split
 ·rfl
 split
 ·split
  case h_2=>rfl
  grind
 ·split
  case h_2=>rfl
  grind
 rfl
theorem S4 (tt:bm (bF×ai)) (d:bm (X×ai)) (g:bm (X×aD)) (f:bM->aj) (e:X) (c:bF) (h:bm (X×bM)) (a:cI->bv b):se tt d g f e c h a=(se tt d g f e c h Y).bind a:=by
 unfold se;split
 ·rfl
 split
 ·rw[qU];congr 1;split
  ·grind
  rfl
 rw[qU];congr 1;split
 ·rfl
 split
 ·grind
 rfl
theorem S7 (tt:bm (bF×ai)) (d:bm (X×ai)) (f:bm (X×aD)) (e:X) (c:bF) (g:aj) (a:cI->bv b):tW tt d f e c g a=(tW tt d f e c g Y).bind a:=by
 unfold tW;split
 ·split
  ·grind
  ·grind
  rfl
 rfl
theorem Tb (tt:bm (bF×ai)) (d:bm (X×ai)) (g:bm (X×aD)) (f:bM->aj) (e:X) (c:bF) (h:X) (i:bm (X×bM)) (a:cI->bv b):sg tt d g f e c h i a=(sg tt d g f e c h i Y).bind a:=by
 unfold sg;split
 ·grind
 rfl
theorem zE {e:gU} (c:bM->aj) (d:bm (X×aD)) (f:bQ) (a:cI->bv b):ao e c d f a=(ao e c d f Y).bind a:=by
 unfold ao;split
 ·split
  ·grind [acS]
  ·grind [Ix]
  ·grind [Ix]
  ·grind [Ut]
  ·grind [W4]
  rfl
 rw[qU];congr 1;split
 ·grind
 ·split
  case h_2=>rfl
  split
  ·rfl
  simp_all [nC,Option.bind_assoc,qU,aC]
 ·split
  case h_2=>rfl
  rw[qU];grind [SG]
 ·grind [TM]
 ·split
  ·rfl
  ·rfl
  ·rfl
  ·grind
  grind
 ·grind [S4]
 ·grind [Xb]
 ·grind [S7]
 ·grind [Tb]
 grind
theorem T9 {e:gU} (c:bM->aj) (d:bm (X×aD)) (f:bQ) (a:cI->bv b):kh e c d f a=(kh e c d f Y).bind a:=by
 unfold kh;split
 ·grind [zE]
 rw[qU];congr 1;refine(zE _ _ _ _).trans (Eq.trans ?_ (b3 (λg=>bB g a) (zE _ _ _ _)).symm);grind
theorem MV:∀{d:bm aZ} {b a:X} {e:bm aZ},DD b d=Y (a,e)->b<=a/\d=bJ (a-b) .snd++.fst::e
 |[],_,_,_,c=>by cases c
 |s::d,b,a,e,c=>by
  cases s<;>simp only[DD] at c<;>first|(cases c;done)|skip
  ·simp_all
  obtain⟨g,f⟩:=MV c;refine⟨aa,?_⟩;rw[(aa:a-b=(a-(b+1))+1),List.replicate_succ,nW,<-f]
theorem DE {c:bm aZ} (b:xa j=Y (a,c)):j=.deref::.unst::(bJ a .snd++.fst::c):=by
 unfold xa at b;split at b
 ·rename_i j;have:=(MV b).2;grind
 grind
def Hb:∀{j k:X} {r r':bm aZ},j≠k->kV (bJ j .snd++.fst::r) (bJ k .snd++.fst::r')=bp
 |0,0,_,_,a=>absurd rfl a
 |0,k+1,_,_,_=>rfl
 |j+1,0,_,_,_=>rfl
 |j+1,k+1,r,r',a=>Hb (j:=j) (k:=k) (r:=r) (r':=r') (λb=>a (by rw[b]))
def Nr:∀{j:X} {r:bm aZ},ha (bJ j .snd++.fst::r) (bJ j .snd++[.fst])=nD r
 |0,r=>by cases r<;>rfl
 |j+1,r=>Nr (j:=j) (r:=r)
def Nq (a:bm aZ):ha a []=nD a:=by cases a<;>rfl
def aaO (c:sH j=Y a):(a=1↔j=[])/\(a=2↔j=[.deref])/\(4<=a->∃d e,xa j=Y (d,e)/\((e=[]/\a=2*d+4)\/(e≠[]/\a=2*d+5)))/\(a=1\/a=2\/4<=a):=by
 unfold sH at c;split at c
 ·cases c;simp
 ·cases c;simp
 rename_i g h;split at c
 ·rename_i d f;cases c;refine⟨⟨λb=>by omega,λb=>absurd b g⟩,⟨λb=>by omega,λb=>absurd b h⟩,λ_=>⟨d,[],f,.inl ⟨bn,bn⟩⟩,aa⟩
 ·rename_i d i e f;cases c;refine⟨⟨λb=>by omega,λb=>absurd b g⟩,⟨λb=>by omega,λb=>absurd b h⟩,λ_=>⟨d,i::e,f,.inr ⟨ac,bn⟩⟩,aa⟩
 cases c
def aaP {i:bm aZ} (b:xK j a=bp) (s:sH i=Y a):ha j i=bp:=by
 obtain⟨l,m,n,w⟩:=aaO s;unfold xK at b;rcases A0.1 b with b|b
 ·obtain⟨c,f⟩:=tu.1 b;rw[l.1 (fu c),Nq];exact f
 rcases A0.1 b with b|b
 ·obtain⟨b,g⟩:=tu.1 b;obtain⟨c,f⟩:=tu.1 b;rw[m.1 (fu c)];cases j with
  |nil=>cases g
  |cons v j=>
   cases v<;>first|(cases g;done)|skip
   show ha j []=bp;rw[Nq];exact f
 split at b
 ·rename_i d k t;obtain⟨o,b⟩:=tu.1 b;obtain⟨h,u,r,q⟩:=n (gV o);rw[DE r,DE t];show ha (bJ d .snd++.fst::k) (bJ h .snd++.fst::u)=bp;by_cases c:d=h
  ·subst c;rcases q with⟨rfl,p⟩|⟨x,p⟩
   ·have ao:a/2=d+2:=aa;have e:a %2=0:=aa;rw[ao,e] at b;have:nD k=bp:=(by simpa using b);rw[Nr,this]
   have ao:a/2=d+2:=aa;have e:a %2=1:=aa;rw[ao,e] at b;simp at b
  exact Ha (Hb c)
 cases b
theorem aaN {id:X} (b:xK j a=bp) (i:qT d=Y (id,a)) (n:∀c∈d.ids,c=id\/c∉f):kj f [(id,j),(id,[])] d=bp:=by
 have z:∀h,sH h=Y a->ha j h=bp:=λh p=>aaP b p;have v:∀g:X,bI g g=bp:=ai9;unfold qT at i;split at i
 ·grind [kj,k2]
 ·grind [kj,k2,HY]
 ·rename_i g h B A l;split at i
  case h_2=>cases i
  rename_i k t x o;cases i;have w:kV j h=bp:=by
   unfold xK at b;rcases A0.1 b with b|b
   ·have:=fu (tu.1 b).1;omega
   rcases A0.1 b with b|b
   ·have:=fu (tu.1 (tu.1 b).1).1;omega
   split at b
   ·rename_i c s q;obtain⟨_,b⟩:=tu.1 b;rw[DE o,DE q];show kV (bJ c .snd++.fst::s) (bJ k .snd++.fst::t)=bp;by_cases e:c=k
    ·subst e;have ao:(2*c+5)/2=c+2:=aa;have m:(2*c+5) %2=1:=aa;rw[ao,m] at b;simp at b
    exact Hb e
   cases b
  have y:(l.all λg=>!(eR g f))=bp:=g0.2 λu r=>by
   rcases n u (g6 _ r) with e|e
   ·grind [hd]
   grind [hd]
  show((l.all λg=>!(eR g f))&&([(id,j),(id,[])].any λe=>bI e.1 id&&kV e.2 h))=bp;grind
 grind
section
theorem It {g B:bM->aj} {b:bm (X×bM)} (d:∀e∈b,g e.2=B e.2):∀(f:ai) (a:X),qb g b f a=qb B b f a
 |.pr j h,a=>by
  simp only[qb,It d h (a+1)];cases i:l8 b a with
  |none=>rfl
  |some c=>
   have:g c=B c:=d (a,c) (z1 i);grind
 |.nil,_=>rfl
 |.int _,_=>rfl
 |.bool,_=>rfl
 |.str,_=>rfl
 |.a6 _ _,_=>rfl
 |.ptr _ _,_=>rfl
 |.osl _,_=>rfl
 |.optr _,_=>rfl
 |.st _,_=>rfl
 |.eK,_=>rfl
 |.mp _,_=>rfl
 |.fw _ _,_=>rfl
 |.fn _ _,_=>rfl
theorem N5 {h:bm (X×aD)} {g B:bM->aj} {b:bm (X×bM)} (d:∀e∈b,g e.2=B e.2):∀(f:ai) (a:X),m1 h g b f a=m1 h B b f a
 |.pr k i,a=>by
  simp only[m1,N5 d i (a+1)];cases j:l8 b a with
  |none=>rfl
  |some c=>
   have:g c=B c:=d (a,c) (z1 j);grind
 |.nil,_=>rfl
 |.int _,_=>rfl
 |.bool,_=>rfl
 |.str,_=>rfl
 |.a6 _ _,_=>rfl
 |.ptr _ _,_=>rfl
 |.osl _,_=>rfl
 |.optr _,_=>rfl
 |.st _,_=>rfl
 |.eK,_=>rfl
 |.mp _,_=>rfl
 |.fw _ _,_=>rfl
 |.fn _ _,_=>rfl
section
variable {tt:bm (bF×ai)} {an:bm (X×ai)} {h A:bm (X×aD)} {d:X} {g B:bM->aj}
theorem Eu {a:ag2} (c:∀b∈a.toArray,g b=B b):a.map g=a.map B:=by
 cases a with
 |none=>rfl
 |some b=>grind
theorem UA {f:Op} (b:∀a∈f.operands,g a=B a):g3 tt an h g d f=g3 tt an h B d f:=by
 cases f
 case build T ps=>
  have:∀e∈ps.toList,g e.2=B e.2:=λe m=>b e.2 (by simp only[bV,yo,eP];grind);grind [It,g3,yE]
 case buildSlice T n ps=>
  have:∀e∈ps.toList,g e.2=B e.2:=λe m=>b e.2 (by simp only[bV,yo,eP];grind);grind [ahv,g3,wq]
 case slice T a j hi p=>
  simp only[bV] at b;have t:g a=B a:=b a ac;have u:j.map g=j.map B:=Eu (λi o=>b i (by grind));have v:hi.map g=hi.map B:=Eu (λi o=>b i (by grind));cases p
  ·grind [g3]
  rfl
 case makeMap T q=>
  cases q<;>rfl
 case makeFunc l s cs=>
  cases l<;>try rfl
  grind [ahv,ahW,g3,bV]
 case call c=>
  obtain⟨r,k,y⟩:=c;have w:∀a∈k.toList,g a=B a:=λa x=>b a (by grind [ahW,bV,ahQ]);clear b;simp only[g3];split
  ·grind
  ·grind [ahv]
  ·grind [ahv]
  rfl
 all_goals (simp only[bV] at b;simp only[g3])
 all_goals (first|rfl|(simp_all;done))
theorem UD {e:Op} (b:∀a∈e.operands,g a=B a):kE tt an h g d e=kE tt an h B d e:=by
 cases e
 case slice T a j hi l=>
  simp only[bV] at b;have i:g a=B a:=b a ac;have n:j.map g=j.map B:=Eu (λf k=>b f (by grind));have o:hi.map g=hi.map B:=Eu (λf k=>b f (by grind));cases l
  ·simp_all [kE]
  rfl
 case call c=>
  grind [ahW,ao,kE,bV,ahQ]
 case unOp m T a=>
  have i:g a=B a:=b a (by simp[bV]);cases m<;>simp only[kE,i]
 all_goals (simp only[bV] at b;simp only[kE])
 all_goals (first|rfl|(simp_all;done))
theorem Mf {k:gU} {n:bQ} {r:cI->bv b} (c:∀j∈n.op.operands,g j=B j):ao k g h n r=ao k B h n r:=by
 have x:=λ(d:X)=>UD (tt:=k.tt) (an:=k.an) (h:=h) (d:=d) c;have w:=λ(d:X)=>UA (tt:=k.tt) (an:=k.an) (h:=h) (d:=d) c;unfold ao;cases y:n.dst with
 |none=>
  simp only;split
  ·grind [bV]
  ·grind [bV]
  ·grind [bV]
  ·grind [bV]
  ·rename_i i t e;rw[e] at c;split
   ·rename_i j u l s ao _;have p:∀a∈i.toList,g a=B a:=λa m=>c a (by grind [ahW,bV,ahQ]);grind
   rfl
  rfl
 |some d=>
  simp only;congr 1;split
  ·grind [bV]
  ·rename_i a i _ e;rw[e] at c;have:i.toList.map g=i.toList.map B:=ik λj p=>c j (by grind [ahW,bV,ahQ]);have m:g a=B a:=c a (by simp[bV,ahQ]);rw[this,m]
  ·rename_i i t e;rw[e] at c;split
   ·rename_i j u l s ao _;have p:∀a∈i.toList,g a=B a:=λa m=>c a (by grind [ahW,bV,ahQ]);grind
   rfl
  ·rename_i i t e;rw[e] at c;split
   ·rename_i j u l s ao _;have p:∀a∈i.toList,g a=B a:=λa m=>c a (by grind [ahW,bV,ahQ]);grind
   rfl
  ·grind [bV]
  ·rename_i l q e;rw[e] at c;have o:∀f∈q.toList,g f.2=B f.2:=λf v=>c f.2 (by simp only[bV,yo,eP];grind);simp only[se,It o,N5 o]
  ·grind [bV]
  ·grind [bV]
  ·rename_i l z q e;rw[e] at c;have o:∀f∈q.toList,g f.2=B f.2:=λf v=>c f.2 (by simp only[bV,yo,eP];grind);grind [ahv,sg]
  grind
def gk (h A:bm (X×aD)) (a:aj):Prop:=∀id∈a.ids,aq h id=aq A id
def aaX (a:gk h A t):ry h t=ry A t:=by
 cases t with
 |ref id b=>simp only[ry,a id (by simp[bT])]
 |_=>rfl
theorem aaW {id:X} (a:ry h t=Y (id,j)):id∈t.ids:=by
 unfold ry at a;split at a
 ·grind [bT]
 ·grind [bT]
 grind
theorem acT {a:aj} {d:cI->bv b} (e:gk h A a) (g:gk h A t):rG tt h c a t d=rG tt A c a t d:=by
 unfold rG;rw[<-aaX e];split
 ·rfl
 rename_i id j f;rw[e id (aaW f)];cases t with
 |ref i k=>simp only[g i (by simp[bT])]
 |_=>rfl
theorem Rt (a:gk h A t):ld h k t=ld A k t:=by
 cases t with
 |ref id b=>simp only[ld,a id (by simp[bT])]
 |view id b e d=>simp only[ld,a id (by simp[bT])]
 |val c g=>cases c<;>rfl
 |df f=>unfold ld;grind
 |_=>rfl
theorem SE {e:aj} {j:cI->bv b} (f:gk h A e) (k:gk h A t) (n:aq h d=aq A d):oX tt an h d c e t j=oX tt an A d c e t j:=by
 unfold oX;split
 ·rfl
 have g:∀i:ai,ld h i t=ld A i t:=λi=>Rt k;cases e with
 |ref id a=>
  cases a with
  |nil=>
   simp only[f id (by simp[bT]),g];cases t with
   |ref o l=>
    cases l with
    |nil=>simp only[k o (by simp[bT])]
    |cons m l=>rfl
   |_=>rfl
  |cons m a=>simp only[f id (by simp[bT]),g,n]
 |view id a q p=>
  cases a with
  |nil=>simp only[f id (by simp[bT]),g]
  |cons m a=>rfl
 |df r=>grind
 |_=>rfl
def aaD {a:aj} (d:gk h A t):u9 h a t=u9 A a t:=by
 unfold u9;cases a with
 |ref id b=>
  cases b with
  |nil=>rfl
  |cons f b=>
   cases t with
   |ref e c=>
    cases c with
    |nil=>simp only[d e (by simp[bT])]
    |cons g c=>rfl
   |_=>rfl
 |_=>rfl
theorem SH {a:aj} {e:cI->bv b} (g:gk h A t) (i:gk h A a) (f:aq h d=aq A d):n6 tt an h d c t a e=n6 tt an A d c t a e:=by
 unfold n6;rw[aaD i,SE g i f];split
 ·rename_i id l k m j;obtain⟨rfl,_,_⟩:=I9 j;unfold yA;rw[g id (by simp[bT]),f]
 rfl
theorem TN {e:aj} {g:cI->bv b} (i:gk h A e) (k:gk h A t):qV tt h d c e t g=qV tt A d c e t g:=by
 unfold qV;split
 ·rfl
 have j:∀f:ai,ld h f t=ld A f t:=λf=>Rt k;cases e with
 |ref id a=>
  cases a with
  |nil=>simp only[i id (by simp[bT]),j]
  |cons l a=>rfl
 |view id a n m=>
  cases a with
  |nil=>simp only[i id (by simp[bT]),j]
  |cons l a=>rfl
 |_=>rfl
theorem FT (b:gk h A t):pO an h d t=pO an A d t:=by
 cases t with
 |ref id a=>
  cases a with
  |nil=>simp only[pO,b id (by simp[bT])]
  |cons c a=>rfl
 |view id a f e=>
  cases a with
  |nil=>simp only[pO,b id (by simp[bT])]
  |cons c a=>rfl
 |df t=>unfold pO;grind
 |_=>rfl
def aaJ (b:gk h A t):xI h k t=xI A k t:=by
 cases t with
 |ref id a=>
  cases a with
  |nil=>simp only[xI,b id (by simp[bT])]
  |cons c a=>rfl
 |_=>rfl
def N6 {b:bm (X×bM)} (c:∀i∈b,gk h A (g i.2)):∀(d:ai) (a:X),m1 h g b d a=m1 A g b d a
 |.pr k e,a=>by
  simp only[m1,N6 c e (a+1)];cases f:l8 b a with
  |none=>rfl
  |some j=>simp only[aaJ (c (a,j) (z1 f))]
 |.nil,_=>rfl
 |.int _,_=>rfl
 |.bool,_=>rfl
 |.str,_=>rfl
 |.a6 _ _,_=>rfl
 |.ptr _ _,_=>rfl
 |.osl _,_=>rfl
 |.optr _,_=>rfl
 |.st _,_=>rfl
 |.eK,_=>rfl
 |.mp _,_=>rfl
 |.fw _ _,_=>rfl
 |.fn _ _,_=>rfl
def Tv (b:gk h A t):ub h k t=ub A k t:=by
 cases t with
 |ref id a=>
  cases a with
  |nil=>simp only[ub,b id (by simp[bT])]
  |cons c a=>rfl
 |_=>rfl
theorem LP {c:ai}:∀{l:bm aj},(∀a∈l,gk h A a)->uc h c l=uc A c l
 |[],_=>rfl
 |x::d,b=>by simp only[uc,Tv (b x ac),LP (l:=d) (λa e=>b a (by grind))]
def FR {v:aj} (a:gk h A v):nu h f v k=nu A f v k:=by
 cases v with
 |ref id b=>simp only[nu,a id (by simp[bT])]
 |_=>rfl
theorem aj.Io {f:X} {a:bm aj} {id:X} (c:t∈a) (e:id∈t.ids):id∈(aj.eA f a).ids:=by obtain⟨b,d,rfl⟩:=ho.1 c;exact aj.z8 (l:=a) (i:=b) (bc d) e
def Lw (a:gk h A t):tZ h f t k=tZ A f t k:=by
 unfold tZ;split
 ·rename_i b d;rw[FR (v:=b) (λid c=>a id (by simpa[bT] using c))]
 exact FR a
def Ly {c:ahb}:∀{l:bm aj} {b:ai},(∀a∈l,gk h A a)->sh h c l b=sh A c l b
 |[],b,_=>by cases b<;>rfl
 |a::l,b,d=>by
  cases b<;>first|rfl|skip
  simp only[sh,Lw (d a ac),Ly (l:=l) (λa e=>d a (by simp[e]))]
def Tk (a:gk h A t):ww h w t k=ww A w t k:=by
 unfold ww;split
 ·rename_i e b i j;rw[Ly (l:=b) (λg c id d=>a id (by
   have:=aj.Io (f:=e) c d;simpa[bT] using this))]
 exact Lw a
theorem MY {b:ahb}:∀{τs:bm ai} {avs:bm aj},(∀a∈avs,gk h A a)->o8 h b τs avs=o8 A b τs avs
 |[],[],_=>rfl
 |[],_::_,_=>rfl
 |_::_,[],_=>rfl
 |τ::e,d::as,c=>by simp only[o8,Tk (c d ac),MY (τs:=e) (avs:=as) (λa f=>c a (by grind))]
theorem sL {S:ahb}:∀{ps:bm hq} {avs:bm aj},(∀b∈avs,gk h A b)->fM h S ps avs=fM A S ps avs
 |[],[],_=>rfl
 |[],_::_,_=>rfl
 |p::d,[],_=>by cases p<;>rfl
 |.v q::d,e::as,a=>by simp only[fM,FR (a e ac),sL (ps:=d) (avs:=as) (λb g=>a b (by grind))]
 |.c z r::d,e::as,a=>by
  have f:=sL (S:=S) (ps:=d) (avs:=as) (λb g=>a b (by grind));cases e with
  |eA u i=>
   have:o8 h S r i=o8 A S r i:=MY (λb g id t=>a (.eA u i) ac id (aj.Io g t));grind [fM]
  |_=>rfl
 |.m q::d,e::as,a=>by
  have f:=sL (S:=S) (ps:=d) (avs:=as) (λb g=>a b (by grind));cases e with
  |ref id p=>
   cases p with
   |nil=>simp only[fM,a (.ref id []) ac id (by simp[bT]),f]
   |cons l p=>rfl
  |_=>rfl
 |.o q::d,e::as,a=>by
  have f:=sL (S:=S) (ps:=d) (avs:=as) (λb g=>a b (by grind));cases e with
  |ref id p=>
   cases p with
   |nil=>simp only[fM,a (.ref id []) ac id (by simp[bT]),f]
   |cons l p=>rfl
  |df x=>grind [fM]
  |_=>rfl
 |.w B::d,e::as,a=>by
  have f:=sL (S:=S) (ps:=d) (avs:=as) (λb g=>a b (by grind));cases e with
  |view id p k j=>
   cases p with
   |nil=>simp only[fM,a (.view id [] k j) ac id (by simp[bT]),f]
   |cons l p=>rfl
  |_=>rfl
 |.n::d,e::as,a=>by
  have f:=sL (S:=S) (ps:=d) (avs:=as) (λb g=>a b (by grind));cases e with
  |df x=>grind [fM]
  |_=>rfl
 |.s y i::d,e::as,a=>by
  have f:=sL (S:=S) (ps:=d) (avs:=as) (λb g=>a b (by grind));cases e with
  |ref id p=>grind [fM]
  |view id p k j=>grind [fM]
  |_=>simp only[fM,f]
theorem WD (a:gk h A t):uS tt h c t=uS tt A c t:=by
 unfold uS;cases t with
 |ref id d=>simp only[a id (by simp[bT])]
 |app id d b i e=>simp only[a id (by simp[bT])]
 |val b j=>cases gY tt c with|none=>rfl|some f=>cases b<;>rfl
 |df g=>grind
 |_=>rfl
theorem Xj (a:gk h A t):u0 tt h c t=u0 tt A c t:=by
 unfold u0;cases t with
 |ref id d=>simp only[a id (by simp[bT])]
 |val b f=>cases k1 tt c with|none=>rfl|some e=>cases b<;>rfl
 |_=>rfl
def WN {a:aj} {b:bA} (d:gk h A t):uU tt h c t a b=uU tt A c t a b:=by
 unfold uU;cases t with
 |ref id f=>simp only[d id (by simp[bT])]
 |val e g=>split<;>first|rfl|(cases e<;>rfl)
 |_=>split<;>rfl
theorem Xh (a:aq h d=aq A d):xA tt an h d c=xA tt an A d c:=by grind [xA]
theorem Iy {a:cI->bv b} {d e:aj} (f:gk h A t):oj tt h c t d e a=oj tt A c t d e a:=by
 unfold oj;cases t with
 |ref id g=>simp only[f id (by simp[bT])]
 |_=>rfl
theorem Xc {a:cI->bv b} {e:aj} (f:gk h A t):rr tt h d c t e a=rr tt A d c t e a:=by
 unfold rr;cases t with
 |ref id g=>simp only[f id (by simp[bT])]
 |_=>rfl
theorem Uu {a:cI->bv b} {d e:aj} (f:gk h A t):q7 tt h c t d e a=q7 tt A c t d e a:=by unfold q7;grind [Iy]
theorem W5 {a:cI->bv b} {d:aj} (e:gk h A t):rq tt h c t d a=rq tt A c t d a:=by
 unfold rq;cases t with
 |ref id f=>simp only[e id (by simp[bT])]
 |_=>rfl
def VU {b:aj} (a:gk h A t):uP tt h c t b=uP tt A c t b:=by
 unfold uP;cases t with
 |ref id d=>simp only[a id (by simp[bT])]
 |view id d g f=>simp only[a id (by simp[bT])]
 |val e j=>cases e<;>rfl
 |df i=>rfl
 |_=>rfl
theorem WK (a:gk h A t):uT tt h c t=uT tt A c t:=by
 unfold uT;cases t with
 |ref id b=>simp only[a id (by simp[bT])]
 |addr id b=>simp only[a id (by simp[bT])]
 |val d f=>cases d<;>first|rfl|grind
 |df e=>rfl
 |_=>rfl
theorem U9 (b:gk h A t):uJ tt h c t a=uJ tt A c t a:=by
 unfold uJ;cases t with
 |ref id d=>simp only[b id (by simp[bT])]
 |addr id d=>simp only[b id (by simp[bT])]
 |val e g=>cases e<;>first|rfl|grind
 |df f=>rfl
 |_=>rfl
def Vb (b:gk h A t):jm.w7 tt h c t a=jm.w7 tt A c t a:=by
 unfold jm.w7;cases t with
 |ref id e=>simp only[b id (by simp[bT])]
 |val d g=>cases d<;>rfl
 |df f=>rfl
 |_=>rfl
def Xx (a:gk h A t):u3 h t=u3 A t:=by
 unfold u3;cases t with
 |ref id c=>simp only[a id (by simp[bT])]
 |val b e=>cases b<;>rfl
 |df d=>rfl
 |_=>rfl
def acE {b a:bv aj} (d:gk h A t):vp tt h c t b a=vp tt A c t b a:=by
 unfold vp;cases t with
 |ref id f=>simp only[d id (by simp[bT])]
 |val e i=>cases e<;>rfl
 |df g=>rfl
 |_=>rfl
theorem WZ {a:aj} (b:aq h d=aq A d):uW tt an h d c a t=uW tt an A d c a t:=by grind [uW]
theorem Sx (a:aq h d=aq A d):wc tt an h d c=wc tt an A d c:=by grind [wc]
theorem UB {e:Op} (b:∀a∈e.operands,gk h A (g a)) (f:aq h d=aq A d):g3 tt an h g d e=g3 tt an A g d e:=by
 cases e
 case box T a=>grind [g3,yF]
 case buildSlice T n ps=>grind [g3,wq]
 case alloc T=>exact Sx f
 case makeSlice T l c=>exact WZ f
 case makeMap T p=>
  cases p
  ·exact Xh f
  rfl
 case lookup T a k ok=>exact WN (b a (by simp[bV]))
 case load T a=>exact WK (b a (by simp[bV]))
 case nilCheck a=>exact Xx (b a (by simp[bV]))
 case indexAddr T a i=>exact VU (b a (by simp[bV]))
 case fieldAddr T a n=>exact U9 (b a (by simp[bV]))
 case field T a n=>exact Vb (b a (by simp[bV]))
 case slice T a u hi o=>
  cases o
  ·exact acE (b a (by simp[bV]))
  rfl
 case call c=>
  obtain⟨q,j,v⟩:=c;have s:∀a∈j.toList,gk h A (g a):=λa t=>b a (by grind [ahW,bV,ahQ]);clear b;simp only[g3];split
  ·grind [Xj,WD]
  ·rfl
  ·rfl
  rfl
 case makeFunc m r cs=>cases m<;>rfl
 all_goals rfl
theorem UE {n:Op} (j:∀b∈n.operands,gk h A (g b)) (z:aq h d=aq A d):kE tt an h g d n=kE tt an A g d n:=by
 cases n
 case lookup f b k ok=>
  have a:=j b (by simp[bV]);simp only[kE];split
  ·rename_i w id e B ao r y;rw[r] at a;rw[a id (by simp[bT])]
  rfl
 case makeSlice f l c=>grind [kE]
 case unOp v f b=>cases v<;>rfl
 case indexAddr f b i=>
  have a:=j b (by simp[bV]);simp only[kE];revert a;cases g b with
  |ref id e=>intro a;simp only[a id (by simp[bT])]
  |view id e t s=>
   intro a;cases e with
   |nil=>simp only[a id (by simp[bT])]
   |cons=>rfl
  |val m p=>intro _;cases m<;>rfl
  |_=>intro _;rfl
 case load f b=>
  have a:=j b (by simp[bV]);simp only[kE];revert a;cases g b with
  |ref id e=>intro a;simp only[a id (by simp[bT])]
  |addr id e=>intro a;simp only[a id (by simp[bT])]
  |val m p=>intro _;cases m<;>rfl
  |_=>intro _;rfl
 case slice f b t s u=>
  have a:=j b (by simp[bV]);cases u
  ·simp only[kE];revert a;cases g b with
   |ref id e=>intro a;simp only[a id (by simp[bT])]
   |val m p=>intro _;cases m<;>rfl
   |_=>intro _;rfl
  rfl
 case call c=>
  obtain⟨x,q,C⟩:=c;have o:∀b∈q.toList,gk h A (g b):=λb a=>j b (by grind [ahW,bV,ahQ]);clear j;simp only[kE];split
  ·rename_i b f ao _;rw[ao] at o;have a:=o b ac;cases gY tt f with
   |none=>
    revert a;cases g b with
    |ref id e=>intro a;simp only;rw[a id (by simp[bT])]
    |_=>intro _;rfl
   |some w=>
    revert a;cases g b with
    |ref id e=>intro a;simp only;rw[a id (by simp[bT])]
    |_=>intro _;rfl
  rfl
 all_goals rfl
theorem s1 {b:Callee} {a:bU bM} {c:bU bF} (d:n∈a.toList):n∈(Op.call {callee:=b,args:=a,argTypes:=c}).operands:=by grind [ahW,bV,ahQ]
theorem Mg {t:gU} {s:bQ} (a:ao t g h s Y=Y q) (e:∀l∈s.op.operands,gk h A (g l)) (o:∀d,s.dst=Y d->aq h d=aq A d) (p:∀b∈q.put,aq h b.1=aq A b.1):ao t g A s Y=Y q:=by
 unfold ao at a|-;cases v:s.dst with
 |none=>
  rw[v] at a;simp only at a|-;split at a
  ·grind [acT,bV]
  ·grind [Iy,bV]
  ·grind [Iy,bV]
  ·grind [Uu,bV]
  ·grind [W5,s1]
  omega
 |some d=>
  rw[v] at a;have o:=o d v;simp only at a|-;cases G:gB t.n t.pin d with
  |false=>grind
  |true=>
  rw[G] at a;simp only[bG] at a|-;split at a
  ·omega
  ·rename_i J z _ i;rw[i] at e;split at a
   case h_2=>cases a
   rename_i D x I
   try rw[I]
   try simp only
   have F:∀j∈z.toList.map g++x,gk h A j:=λj k=>by
    rcases h8.1 k with k|k
    ·grind [s1]
    intro id N;exact e J (by simp[bV,ahQ]) id (by grind [aj.Io])
   split at a
   ·cases a
   rename_i c K;cases E:bI c.f D with
   |false=>grind
   |true=>
   rw[E] at a;simp only[bG,nC] at a|-;rw[<-sL F];obtain⟨j,k,a⟩:=eO.1 a;obtain⟨m,H,a⟩:=eO.1 a;simp only[k,H,aC];cases C:nv d ⟨[],h⟩ (z.toList.map g++x) (gK c.ps j m) (iY c.rs (it c.ps m)) with
   |false=>grind
   |true=>
   rw[C] at a;have L:nv d ⟨[],A⟩ (z.toList.map g++x) (gK c.ps j m) (iY c.rs (it c.ps m))=bp:=(by rw[<-C];unfold nv;congr 1;rw[vF,g0,g0];cases a;have w:∀b∈i5 d (iW (iY c.rs (it c.ps m))) 0 (iY c.rs (it c.ps m)),aq h b.1=aq A b.1:=λb w=>p b (by grind);grind);grind
  ·grind [SH,s1]
  ·grind [TN,s1]
  ·rename_i l i;rw[i] at e;have r:=e l (by simp[bV]);revert a r;cases g l with
   |val T S=>grind
   |df R=>grind [FT]
   |ref id u=>grind [FT]
   |view id u O M=>grind [FT]
   |_=>intro a _;exact a
  ·rename_i B y i;rw[i] at e;have p:∀b∈y.toList,gk h A (g b.2):=λb w=>e b.2 (by simp only[bV,yo,eP];grind);rw[<-a];simp only[se,N6 p,o]
  ·grind [Xc,bV]
  ·rename_i B l i;rw[i] at e;have r:=e l (by simp[bV]);rw[<-a];simp only[tW,o];revert r;cases g l with
   |ref id u=>
    intro r;cases u with
    |nil=>simp only[r id (by simp[bT])]
    |cons Q u=>rfl
   |_=>intro _;rfl
  ·rename_i B P y i;rw[i] at e;have p:∀j∈y.toList.map (λb=>g b.2),gk h A j:=λj k=>by
    obtain⟨b,w,rfl⟩:=eP.1 k;exact e b.2 (by simp only[bV,yo,eP];grind)
   rw[<-a];simp only[sg,LP p,o]
  grind [UE,UB]
end
theorem Rj {d:Op}:∀e∈rJ d,e∈d.operands:=by
 intro e b;cases d<;>simp only[rJ] at b<;>first|(cases b;done)|skip
 case assign y=>grind [bV]
 case box T y=>grind [bV]
 case build T ps=>grind [bV]
 case buildSlice T n ps=>grind [bV]
 case store T a v=>grind [bV]
 case mapUpdate T a k v=>grind [bV]
 case insert T a k v=>grind [bV]
 case entryStore T a k v=>grind [bV]
 case call c=>
  obtain⟨g,f,h⟩:=c;simp only at b;split at b
  ·exact s1 b
  ·exact s1 (List.mem_of_mem_drop b)
  grind
theorem DB {e:ahd} {f:X} {g:bM->aj}:∀{a:bm bM},∀id∈mw e f g a,∃x∈a,g x=.ref id []
 |[],id,h=>by cases h
 |x::a,id,h=>by
  simp only[mw] at h;split at h
  ·rename_i j i;rw[Bool.cond_eq_ite] at h;split at h
   ·rcases fR.1 h with rfl|h
    ·grind
    obtain⟨d,c,b⟩:=DB id h;grind
   obtain⟨d,c,b⟩:=DB id h;grind
  obtain⟨d,c,b⟩:=DB id h;grind
theorem MU {a:ahd} {c:X} {g B:bM->aj}:∀{l:bm bM},(∀x∈l,g x=B x)->mw a c g l=mw a c B l
 |[],_=>rfl
 |x::l,b=>by simp only[mw,b x ac,MU (l:=l) (λd e=>b d (by grind))]
theorem MS {h A:bm (X×aD)} (c:∀id∈f,aq h id=aq A id) (a:aj):gX h f a=gX A f a:=by
 cases a with
 |ref id b=>
  cases b with
  |nil=>
   grind [hd,eR,gX]
  |cons d b=>rfl
 |_=>rfl
theorem Vo {h A:bm (X×aD)} (d:∀id∈f,aq h id=aq A id) (a:aj):iF h f a=iF A f a:=by
 by_cases c:∃b,a=.ff b
 ·obtain⟨b,rfl⟩:=c;grind [ahv,MS,iF]
 grind [HD,MS]
theorem MR {h:bm (X×aD)}:∀id∈(gX h f d).ids,id∈d.ids:=by
 intro id b;rcases mv h f d with⟨e,c,rfl,_,_,a⟩|⟨a,_⟩|⟨a,_⟩
 ·rw[a] at b;have:(rh c).ids=[]:=(by unfold rh;split<;>rfl);grind
 ·rw[a] at b;cases b
 grind
def Nc {c:aj->aj} (d:∀a,∀id∈(c a).ids,id∈a.ids):∀{b:bm aj} {id:X},id∈aic (b.map c)->id∈aic b
 |[],_,h=>h
 |a::b,id,h=>by simp only[h7,aic,h8] at h|-;exact h.imp (d a id) (Nc d)
theorem Vn {h:bm (X×aD)}:∀id∈(iF h f d).ids,id∈d.ids:=by
 by_cases c:∃a,d=.ff a
 ·obtain⟨a,rfl⟩:=c;exactλid b=>Nc (λd=>MR) b
 grind [HD,MR]
theorem Ub {i:gU} {g B:bM->aj} {h A:bm (X×aD)} {b:bQ} (c:kh i g h b Y=Y q) (o:∀a∈b.op.operands,g a=B a) (n:∀a∈b.op.operands,gk h A (g a)) (t:∀d,b.dst=Y d->aq h d=aq A d) (y:∀l∈q.put,aq h l.1=aq A l.1):kh i B A b Y=Y q:=by
 unfold kh at c|-;rw[<-MU (λa f=>o a (Rj a f))];split
 ·rename_i j;rw[j] at c;rw[<-Mf o];grind [Mg]
 rename_i x;split at c
 ·grind
 have j:∀id∈mw i.p4 (uL b) g (rJ b.op),aq h id=aq A id:=λid k=>(by obtain⟨a,f,q⟩:=DB id k;exact n a (Rj a f) id (by grind [bT]));generalize mw i.p4 (uL b) g (rJ b.op)=e at c j|-;have r:nw A e=nw h e:=(by unfold nw;grind);rw[r];cases s:nw h e with
 |false=>grind
 |true=>
 rw[s] at c;simp only[bG] at c|-;rw[zE] at c|-;obtain⟨m,p,v⟩:=eO.1 c;have z:m.put=q.put:=(by grind);have w:ao i (λa=>iF A e (B a)) (del e A) b Y=Y m:=by
  rw[<-Mf (g:=λa=>iF h e (g a)) (λa f=>by grind [Vo])];refine Mg p (λa f id k=>?_) (λd u=>?_) (λl C=>?_)
  ·rw[mZ,mZ,n a f id (Vn id k)]
  ·rw[mZ,mZ,t d u]
  grind [mZ]
 grind
end
section
def qf (D:bU bQ) (a:X):ahb:=match D[a]? with
 |some b=>(b.after.toList.filter (akQ .any)).map (·.on)
 |none=>[]
def xY (a:X):cI:=⟨Y (a,.df bW),[],[],[]⟩
def Di (ic:gU) {d:Type} (G C:ahb) (a:aM) (c:bQ) (e:cI->bv d):bv d:=
 kh ic (aU a.g) a.h c λb=>bif re G C (aU a.g) c b then e b else bo
def iA (ic:gU) (D:bU bQ) (G C:X->ahb) (e:X) (b:aM) (d:cI):Prop:=
 ∃a,D[e]?=Y a/\((kP D b a bp/\kh ic (aU b.g) b.h a Y=Y d/\re (G e) (C e) (aU b.g) a d=bp)\/(kP D b a bq/\∃c,a.dst=Y c/\gB ic.n ic.pin c=bp/\d=xY c))
def sM (ic:gU) {k:Type} (D:bU bQ) (G C:X->ahb):ahb->aM->(aM->bv k)->bv k
 |[],a,b=>b a
 |i::e,a,b=>match D[i]? with
  |none=>bo
  |some f=>match f.guard with
   |none=>Di ic (G i) (C i) a f λj=>sM ic D G C e (j.app a) b
   |some (
    l,tp)=>match(D[l]?).bind (·.dst),f.dst with
    |some d,Y c=>match gt a.g d with
     |.val .bool m=>bif gB ic.n ic.pin c then
      (match m==tp with
      |true=>Di ic (G i) (C i) ⟨(d,.val .bool tp)::a.g,a.h⟩ f λj=>sM ic D G C e (j.app ⟨(d,.val .bool tp)::a.g,a.h⟩) b
      |false=>sM ic D G C e ⟨(c,.df bW)::(d,.val .bool (!tp))::a.g,a.h⟩ b) else bo
     |.df (.tuple _)=>bif gB ic.n ic.pin c then sM ic D G C e ⟨(c,.df bW)::a.g,a.h⟩ b else bo
     |_=>bo
    |_,_=>bo
def n2 (ic:gU) (D:bU bQ) (G C:X->ahb):ahb->aM->aM->Prop
 |[],a,b=>ky a b
 |i::d,a,b=>∃c,iA ic D G C i a c/\n2 ic D G C d (c.app a) b
theorem SC {tt:bm (bF×ai)} {id:X} {f:aZ} (b:n6 tt l e a c (.ref id (f::j)) d Y=Y q):q.keep=[(id,f::j),(id,[])]/\q.S=[id]/\aq q.put id=aq e id:=by
 have o:∀{h:aj} {g:aD},aq e id=Y g->aq e a=bo->Y (cI.mk (Y (a,h)) [id] [(id,f::j),(id,[])] [(a,⟨.eK,()⟩),(id,g)])=Y q->q.keep=[(id,f::j),(id,[])]/\q.S=[id]/\aq q.put id=aq e id:=(by intro h g i p k;cases k;have m:¬a=id:=λq=>(by grind);exact⟨bn,bn,by rw[dg,aw m,dg,au bn,i]⟩);unfold n6 at b;split at b
 ·rename_i r t s u n;obtain⟨ao,_,_⟩:=I9 n;cases ao;unfold yA at b;split at b
  case h_2=>cases b
  grind [ait]
 unfold oX at b;split at b
 ·cases b
 rename_i v _;simp only at b;split at b
 case h_2=>cases b
 grind [ait]
theorem FP {id:X} (e:r8 V h=Y (id,j)):∃d f c g b a,h.op=.call {callee:=.builtin .append,args:=d,argTypes:=f}/\d.toList=[c,g]/\j=b::a/\V c=.ref id (b::a):=by unfold r8 at e;grind
theorem Me {ic:gU} {g:bM->aj} {id:X} {d:bU bM} {o:bU bF} {p:bM} {c:aZ} {b:bm aZ} (k:h.op=.call {callee:=.builtin .append,args:=d,argTypes:=o}) (m:d.toList=[N,p]) (s:j=c::b) (r:g N=.ref id (c::b)) (a:ao ic g e h Y=Y q):q.keep=[(id,j),(id,[])]/\q.S=[id]/\aq q.put id=aq e id:=by
 unfold ao at a;cases i:h.dst with
 |none=>grind
 |some f=>
  rw[i] at a;simp only at a;cases l:gB ic.n ic.pin f with
  |false=>grind
  |true=>
  rw[l] at a;simp only[bG,k,m] at a;grind [SC]
theorem Mi {ic:gU} {id:X} (x:r8 V h=Y (id,j)) (c:kh ic V e h Y=Y q):q.keep=[(id,j),(id,[])]/\aq q.put id=aq e id:=by
 obtain⟨M,K,k,N,i,f,p,r,C,o⟩:=FP x;unfold kh at c;split at c
 ·grind [Me]
 generalize mw ic.p4 (uL h) V (rJ h.op)=b at c;cases z:nw e b with
 |false=>grind
 |true=>
 rw[z] at c;simp only[bG] at c;rw[zE] at c;obtain⟨l,a,m⟩:=eO.1 c;cases B:l.keep.all (λs=>!eR s.1 b) with
 |false=>grind
 |true=>
 rw[B] at m;cases m;have d:iF e b (.ref id (i::f))=.ref id (i::f)\/iF e b (.ref id (i::f))=.dead:=by
  rw[HD (by grind)];rcases mv e b (.ref id (i::f)) with⟨s,J,q,_⟩|⟨q,_⟩|⟨q,_⟩
  ·cases q
  ·grind
  grind
 rcases d with d|d
 ·obtain⟨E,_,F⟩:=Me (g:=λk=>iF e b (V k)) p r C (by show iF e b (V k)=_;rw[o];exact d) a;refine⟨E,?_⟩;show aq l.put id=_;rw[F,mZ];have I:id∉b:=λH=>by
   grind [hd,aij]
  grind
 exfalso;unfold ao at a;cases A:h.dst with
 |none=>grind
 |some v=>
  rw[A] at a;simp only at a;cases D:gB ic.n ic.pin v with
  |false=>grind
  |true=>
  rw[D] at a;simp only[bG,p,r] at a;split at a
  case h_2=>cases a
  rename_i L O t u w G;cases w;cases y:bI t u with
  |false=>grind
  |true=>
  rw[y] at a;simp only[bG,o,d,n6,u9,oX] at a;grind
section
variable {ic:gU} {D:bU bQ} {G C:X->ahb}
theorem Dh.ok {e:bv (X×aj)} {a:ag7} (c:Dh e a=bp):∀d b,e=Y (d,b)->a=Y d:=by
 intro d b g;subst g;cases a with
 |none=>cases c
 |some f=>rw[fu (show bI d f=bp from c)]
theorem Mk {c:bQ} {d:cI->bv b} {e:b} (j:Di ic f w i c d=Y e):∃a,kh ic (aU i.g) i.h c Y=Y a/\re f w (aU i.g) c a=bp/\d a=Y e:=by unfold Di at j;grind [ait,T9]
def mO (b:ahb) (a:aj):Prop:=(∀id∈a.ids,id∈b)\/(∃id,a=.ref id []/\id+500000∈b)\/∃id c,qT a=Y (id,c)/\id<500000/\id+1000000*c∈b/\∀d∈a.ids,d=id\/d∈b
theorem sS.ok (a:sS f d=bp):∃id b,qT d=Y (id,b)/\id<500000/\id+1000000*b∈f/\∀c∈d.ids,c=id\/c∈f:=by
 unfold sS at a;split at a
 case h_2=>cases a
 rename_i id b e;simp only[cC] at a;refine⟨id,b,e,gV a.1,hd.1 a.2.1,λc g=>?_⟩;simp_all [fu,hd,jl,g0]
theorem pj.ok (a:pj f d=bp):∃id,d=.ref id []/\id+500000∈f:=by unfold pj at a;grind [hd]
theorem mO.ok {c:ahb} {b:aj} (a:(pk b.ids c||pj c b)=bp):mO c b:=by
 rcases jl _ _▸a with a|a
 ·exact .inl (pk.ok a)
 exact .inr (.inl (pj.ok a))
theorem mO.YO (a:(pk d.ids f||(pj f d||sS f d))=bp):mO f d:=by
 simp only[jl] at a;rcases a with a|a|a
 ·exact .inl (pk.ok a)
 ·exact .inr (.inl (pj.ok a))
 exact .inr (.inr (sS.ok a))
theorem MC (b:sH j=Y a):1<=a:=by unfold sH at b;grind
theorem Tu {id:X} (b:qT d=Y (id,a)):1<=a:=by
 unfold qT at b;split at b
 ·split at b
  ·rename_i c;cases b;exact MC c
  grind
 ·split at b
  ·rename_i c;cases b;exact MC c
  grind
 ·grind
 grind
def KA (e:Op) (c:ahb) (b:aj):Prop:=
 (∃f d g a,e=.extract f d/\b=.ff g/\g[d]?=Y a/\s7 a=bp/\mO c a)\/
 ((∀f d,e≠.extract f d)/\Bp b=bp/\mO c b/\((∀id∈b.ids,id∈c\/∃a,1<=a/\id<500000/\id+1000000*a∈c)\/xh e=bp))
theorem ot.ok {h:Op} {f:ahb} {e:aj} (a:ot h f e=bp):KA h f e:=by
 unfold ot at a;split at a
 ·rename_i d b;split at a
  case h_2=>cases a
  rename_i q;split at a
  case h_2=>cases a
  rename_i c o;rw[cC] at a;exact .inl ⟨d,b,q,c,bn,bn,o,a.1,.ok a.2⟩
 rename_i p;simp only[cC,jl] at a;refine .inr ⟨λd b i=>p d b i,a.1,?_⟩;rcases a.2 with a|⟨a,j⟩|a
 ·exact⟨.inl (pk.ok a),.inl λb g=>.inl (pk.ok a b g)⟩
 ·exact⟨.inr (.inl (pj.ok j)),.inr a⟩
 obtain⟨id,c,k,l,m,n⟩:=sS.ok a;refine⟨.inr (.inr ⟨id,c,k,l,m,n⟩),.inl λb g=>?_⟩;grind
theorem re.ok {i b:ahb} {j:bM->aj} {g:bQ} {c:cI} (a:re i b j g c=bp):(∀d f,c.d=Y (d,f)->g.dst=Y d)/\(∀l∈g.op.operands,KA g.op i (j l))/\(∀id∈c.S,id<500000/\(id∈b/\(id+500000∈b\/k2 c.keep (.ref id [])=bp)\/id+1500000∈b))/\(∀h∈c.put,h.1<500000/\(h.1∈b\/h.1+1500000∈b))/\(∀d f,c.d=Y (d,f)->mO i f)/\(∀e∈b,1000000<=e->∃id k,r8 j g=Y (id,k)/\e %1000000=id+500000/\id<500000/\xK k (e/1000000)=bp):=by
 unfold re at a;simp only[cC] at a;obtain⟨⟨⟨⟨m,t⟩,n⟩,o⟩,u,p⟩:=a;refine⟨Dh.ok m,λl y=>?_,λid q=>?_,λh s=>?_,λd f w=>?_,λe r x=>?_⟩
 ·grind [ot.ok,aij]
 ·have:=g0.1 n id q;simp_all [gV,hd,cC,jl]
 ·have:=g0.1 o h s;simp_all [gV,hd,cC,jl]
 ·grind [mO.YO]
 have:=g0.1 p e r;rw[jl] at this;rcases this with a|a
 ·have:e<1000000:=gV a;omega
 split at a
 case h_2=>cases a
 rename_i id k v;simp only[cC] at a;grind [ahZ,Nat.le_of_ble_eq_true]
def qG (d:ahb) (a c:aj):Prop:=(Bp a=bp->mO d a->c=a)/\∀f,a=.ff f->∃g,c=.ff g/\∀(e:X) (b:aj),f[e]?=Y b->s7 b=bp->mO d b->g[e]?=Y b
def qG.refl (a:t=d):qG f d t:=⟨λ_ _=>a,λc b=>⟨c,by rw[a,b],λ_ _ a _ _=>a⟩⟩
theorem qG.ot {a:ahb} {h:Op} {c d:aj} (e:qG a c d) (g:ot h a c=bp):jm.ot h a d=bp:=by
 rcases ot.ok g with⟨r,p,k,l,i,b,f,j,n⟩|⟨i,b,f,j⟩
 ·obtain⟨q,m,o⟩:=e.2 k b;grind [jm.ot]
 rw[e.1 b f];exact g
theorem Ua {ic:gU} {b:bM->aj} {g:bm (X×aD)} {c f:bm aj} (o:h.op=.extract n a) (m:kh ic V e h Y=Y q) (i:V n=.ff c) (j:b n=.ff f) (k:c[a]?=Y d) (l:f[a]?=Y d):kh ic b g h Y=Y q:=by simp_all [kE,g3,Dq,ao,mw,uL,rJ,kh]
theorem Uc {ic:gU} {a:bM->aj} {d:bm (X×aD)} (b:xh h.op=bp) (f:kh ic V e h Y=Y q) (g:∀c∈h.op.operands,V c=a c):kh ic a d h Y=Y q:=by
 unfold xh at b;split at b
 ·simp_all [kE,g3,ao,mw,uL,rJ,kh,bV]
 grind
theorem W8 (b:.tmp a∈h.op.operands):a∈h.looksAt D:=
 rX _ (List.mem_filterMap.2 ⟨.tmp a,by grind,bn⟩)
theorem W9 {b:bA} (c:h.guard=Y (m,b)) (d:(D[m]?).bind (·.dst)=Y a):a∈h.looksAt D:=
 lm _ (by grind)
theorem Rn {l:aM} {c:bA} (n:∀k∈h.looksAt D,qG f (gt i.g k) (gt l.g k)) (a:kP D i h c):kP D l h c:=by
 unfold kP at*;cases d:h.guard with
 |none=>grind
 |some p=>
  obtain⟨o,r⟩:=p;rw[d] at a;simp only at a|-;cases e:(D[o]?).bind (·.dst) with
  |none=>grind
  |some m=>
   rw[e] at a;simp only at a|-;have j:=n m (W9 d e);split at a
   ·rename_i s b;rw[j.1 (by rw[b];rfl) (by rw[b];exact .inl (by simp[bT])),b];exact a
   ·rename_i q b;rw[j.1 (by rw[b];rfl) (by rw[b];exact .inl (by simp[bT])),b];exact a
   grind
theorem iA.congr {f:aM} (e:iA ic D G C a i q) (m:∀c,D[a]?=Y c->∀o∈c.looksAt D,qG (G a) (gt i.g o) (gt f.g o)) (w:∀c,D[a]?=Y c->∀id,id∈G a\/id∈C a\/c.dst=Y id->aq i.h id=aq f.h id) (c1:∀id j,1<=j->id<500000->id+1000000*j∈G a->aq i.h id=aq f.h id):iA ic D G C a f q:=by
 obtain⟨c,x,e⟩:=e;have m:=m c x;have w:=w c x;refine⟨c,x,e.imp (λ⟨s,t,l⟩=>⟨Rn m s,?_⟩) (λ⟨s,t⟩=>⟨Rn m s,t⟩)⟩;obtain⟨bx,f2,ce,f4,f5,P⟩:=re.ok l;have n:∀b∈c.op.operands,qG (G a) (aU i.g b) (aU f.g b):=by
  intro b d;cases b with
  |tmp o=>exact m o (W8 d)
  |const ap=>exact .refl (by cases ap<;>rfl)
  |func bs=>exact .refl bn
  |global Q=>exact .refl bn
 constructor
 ·by_cases S:∃b F,c.op=.extract b F
  ·obtain⟨b,F,U⟩:=S;have d:b∈c.op.operands:=(by grind [bV]);rcases f2 b d with⟨J,H,y,j,k,r,z,ci,co⟩|⟨k,_⟩
   ·rw[U] at k;cases k;obtain⟨d0,ax,d1⟩:=(n b d).2 y r;grind [Ua]
   grind
  have A:∀b∈c.op.operands,Bp (aU i.g b)=bp/\mO (G a) (aU i.g b)/\((∀id∈(aU i.g b).ids,id∈G a\/∃j,1<=j/\id<500000/\id+1000000*j∈G a)\/xh c.op=bp):=λb d=>by
   rcases f2 b d with⟨J,H,y,j,k,_⟩|⟨_,Q⟩
   ·grind
   omega
  have v:∀b∈c.op.operands,aU i.g b=aU f.g b:=λb d=>((n b d).1 (A b d).1 (A b d).2.1).symm;by_cases c2:xh c.op=bp
  ·grind [Uc]
  have V:∀b∈c.op.operands,∀id∈(aU i.g b).ids,aq i.h id=aq f.h id:=λb d id cv=>(by grind);refine Ub t v V (λO R=>w O (.inr (.inr R))) (λI B=>?_);rcases(f4 I B).2 with e|e
  ·grind
  obtain⟨id,p,K,a3,a4,_⟩:=P _ e aa;have:=(f4 I B).1;obtain⟨av,an,b,a0,am,ax,L,M,_,N⟩:=FP K;grind [ahk,s1,bT]
 unfold re at*;have:(c.op.operands.toList.all λb=>ot c.op (G a) (aU f.g b))=bp:=(by simp only[cC] at l;rw[g0];intro b d;exact(n b (by grind)).ot (g0.1 l.1.1.1.2 b d));have cs:∀id p,r8 (aU i.g) c=Y (id,p)->r8 (aU f.g) c=Y (id,p):=λid p v=>by
  obtain⟨av,an,b,a0,am,ax,L,M,bl,N⟩:=FP v;have E:b∈c.op.operands:=(by grind [s1]);have ds:aU f.g b=aU i.g b:=by
   rcases f2 b E with⟨J,H,y,j,k,_⟩|⟨_,r,z,_⟩
   ·grind
   exact(n b E).1 r z
  grind [r8]
 have dl:Jb (C a) (aU f.g) c=bp:=by
  simp only[cC] at l;have u:=l.2.2;unfold Jb at u|-;rw[g0] at u|-;intro ad T;have:=u ad T;rw[jl] at this|-;refine this.imp (λe=>e) (λe=>?_);split at e
  case h_2=>cases e
  grind
 grind
theorem iA.Dj (g:iA ic D G C a i q) {r:bQ} (F:D[a]?=Y r):(∀f c,q.d=Y (f,c)->r.dst=Y f)/\(∀id∈q.S,id<500000/\(id∈C a/\(id+500000∈C a\/k2 q.keep (.ref id [])=bp)\/id+1500000∈C a))/\(∀k∈q.put,k.1<500000/\(k.1∈C a\/k.1+1500000∈C a))/\(∀f c,q.d=Y (f,c)->mO (G a) c)/\(∀id,id<500000->id+1500000∈C a->aq (q.app i).h id=aq i.h id)/\(∀id b e,id∈q.S->id<500000->id+1000000*b+500000∈C a->1<=b->qT e=Y (id,b)->(∀p∈e.ids,p=id\/p∉q.S)->kj q.S q.keep e=bp):=by
 obtain⟨L,n,g⟩:=g;rw[F] at n;cases n;rcases g with⟨_,x,g⟩|⟨_,f,A,_,rfl⟩
 ·obtain⟨u,f2,v,f4,f5,w⟩:=re.ok g;refine⟨u,v,f4,f5,λid B m=>?_,λid b e l B m K z E=>?_⟩
  ·grind [cI.r9,Mi]
  obtain⟨o,M,s,H,I,J⟩:=w _ m aa;obtain rfl:o=id:=aa;obtain⟨y,_⟩:=Mi s x;rw[y];refine aaN ?_ z E;have:(o+1000000*b+500000)/1000000=b:=aa;grind
 refine⟨λt c j=>?_,by simp[xY],by simp[xY],λt c j=>?_,λid _ _=>rfl,λid b e l=>by cases l⟩
 ·cases j;exact A
 cases j;exact .inl (by simp[bT])
structure yt (f S:ahb) (keep:bm (X×bm aZ)):Prop where
 a:∀id∈S,id∉f
 b:∀id∈S,id+500000∈f->k2 keep (.ref id [])=bp
 c:∀id∈S,∀c v,1<=c->id<500000->id+1000000*c∈f->qT v=Y (id,c)->(∀j∈v.ids,j=id\/j∉S)->kj S keep v=bp
theorem DS (b:ahb) (c:bm (X×bm aZ)) (a:aj):fd b c a=.dead\/fd b c a=a:=by grind [kj,fd]
theorem H1 (b:s7 (fd f g d)=bp):fd f g d=d:=by
 rcases DS f g d with a|a
 ·rw[a] at b;cases b
 omega
theorem H0 (a:∀id∈d.ids,id∉f):fd f g d=d:=by grind [hd,akG,Fe,id,ahs]
theorem Wb (a:∀id∈d.ids,id∉f):fH f g d=d:=by grind [hd,akG,J9,id,ahs]
theorem Nv (e:mO w d) (i:yt w f g):fd f g d=d:=by
 rcases e with e|⟨id,rfl,e⟩|⟨id,o,k,p,q,l⟩
 ·exact H0 λid s h=>i.a id h (e id s)
 ·by_cases h:id∈f
  ·unfold fd;rw[show kj f g (.ref id [])=k2 g (.ref id []) from rfl,i.b id h e];simp
  grind [H0,ahk,bT]
 by_cases h:id∈f
 ·unfold fd;rw[i.c id h o d (Tu k) p q k (λn t=>(l n t).imp (λe=>e) (λe h=>i.a n h e))];simp
 exact H0 λm r u=>by
  rcases l m r with j|j
  ·grind
  exact i.a m u j
theorem zX (b:mO w d) (e:yt w f g):fH f g d=d:=by
 cases d with
 |ff k=>
  rcases b with b|⟨id,c,_⟩|⟨id,j,c,_⟩
  ·exact Wb λid h i=>e.a id i (b id h)
  ·cases c
  cases c
 |_=>exact Nv b e
theorem Nu (a:ahb) (d:bm (X×bm aZ)) (b:ahb) (e:bm (X×bm aZ)) (c:aj):fd a d (fd b e c)=fd b e (fd a d c):=by grind [DS]
theorem Nt (b:∀a,d≠.ff a):fH f g d=fd f g d:=by
 cases d with
 |ff a=>grind
 |_=>rfl
theorem DR (b:ahb) (d:bm (X×bm aZ)) (c:ahb) (e:bm (X×bm aZ)) (a:aj):fH b d (fH c e a)=fH c e (fH b d a):=by
 by_cases g:∃f,a=.ff f
 ·obtain⟨f,rfl⟩:=g;simp_all [b3,ik,Nu,oL,fH]
 grind [DS,Nt,Nu]
theorem Wd (l d:ahb) (e:bm (X×bm aZ)) (b:aj):qG l (fH d e b) b:=by
 by_cases j:∃a,b=.ff a
 ·obtain⟨a,rfl⟩:=j;refine⟨λc _=>?_,λr m=>⟨a,bn,λq o p i _=>?_⟩⟩
  ·simp only[fH] at c|-;have c:∀g∈a.map (fd d e),s7 g=bp:=g0.1 c;congr 1;rw[ik (λg n=>H1 (c _ (eP.2 ⟨g,n,bn⟩))),akI]
  simp only[fH,aj.ff.injEq] at m;grind [H1,alO]
 have i:∀a,b≠.ff a:=λa f=>j ⟨a,f⟩;rw[Nt i];have h:∀a,fd d e b≠.ff a:=λa f=>(by grind [DS]);refine⟨λc _=>?_,λa f=>absurd f (h a)⟩;have:s7 (fd d e b)=bp:=by
  generalize fd d e b=k at c h;cases k with
  |ff a=>grind
  |_=>exact c
 grind [H1]
theorem We (a:aj) (d:yt w f g):qG w a (fH f g a):=by refine⟨λ_ c=>zX c d,λk b=>?_⟩;subst b;refine⟨_,bn,λj e h _ i=>?_⟩;grind [Nv]
def K5 (e:∀b c,q.d=Y (b,c)->b≠a):gt (q.app i).g a=fH q.S q.keep (gt i.g a):=by
 rw[cI.tR];cases f:q.d with
 |none=>rfl
 |some h=>obtain⟨b,c⟩:=h;simp only;rw[aw (e b c f)]
def WJ {c:bm (X×b)} {id:X} (d:∀a∈c,a.1≠id):aq c id=bo:=by
 induction c with
 |nil=>rfl
 |cons a c f=>
  obtain⟨g,h⟩:=a;rw[dg,aw (d (g,h) ac),f (λa e=>d a (by simp[e]))]
def K6 {id:X} (a:id∉q.S) (b:∀c∈q.put,c.1≠id):aq (q.app i).h id=aq i.h id:=by rw[cI.r9,aw a,WJ b];rfl
def sA (b c:ahb):bA:=b.all λa=>!(eR a c)
theorem sA.ok (b:sA f w=bp):∀a∈f,a∉w:=λa c d=>by have:=g0.1 b a c;rw[hd.2 d] at this;cases this
def dl (b:bQ):ahb:=match b.dst with
 |some a=>[a]
 |none=>[]
theorem xy (b:h.dst=Y a):a∈dl h:=by unfold dl;rw[b];simp
def sB (b c:ahb):bA:=b.all λa=>b2 1000000 a||!(eR a c)
theorem sB.ok (a:sB f w=bp):∀b∈f,b<1000000->b∉w:=λb c e d=>by
 have:=g0.1 a b c;rw[hd.2 d,jl] at this;rcases this with a|a
 ·have:=gV a;omega
 cases a
def rk (e d f b:ahb):bA:=(b.all λa=>ca a 1000000||(!(eR (a %1000000-500000) e)&&(!(eR (a %1000000-500000) d)&&!(eR (a %1000000-500000) f))))&&d.all λc=>ca c 1000000||(!(eR (c %1000000) b)&&(!(eR (c %1000000+1500000) b)||eR (c+500000) b))
theorem rk.ok {d i:ahb} (a:rk d w i f=bp):(∀id,id<500000->id+1500000∈f->id∉d/\id∉w/\id∉i)/\∀id b,1<=b->id<500000->id+1000000*b∈w->id∉f/\(id+1500000∈f->id+1000000*b+500000∈f):=by
 unfold rk at a;rw[cC] at a;have e:∀{g:X} {h:ahb},(!(eR g h))=bp->g∉h:=λ{g h} a c=>(by rw[hd.2 c] at a;cases a);constructor
 ·intro id k c;have:=g0.1 a.1 _ c;rw[jl] at this;rcases this with a|a
  ·have:id+1500000<1000000:=gV a;omega
  rw[(aa:(id+1500000) %1000000-500000=id)] at a;simp only[cC] at a;exact⟨e a.1,e a.2.1,e a.2.2⟩
 intro id b l k c;have:=g0.1 a.2 _ c;rw[jl] at this;rcases this with a|a
 ·have:id+1000000*b<1000000:=gV a;omega
 rw[(aa:(id+1000000*b) %1000000=id)] at a;simp only[cC,jl] at a;refine⟨e a.1,λj=>?_⟩;rcases a.2 with a|a
 ·exact absurd j (e a)
 exact hd.1 a
def ue (D:bU bQ) (G C:X->ahb) (a b:X):bA:=
 match D[a]?,D[b]? with
 |some d,Y c=>d.apart D c&&sB (C b) (dl d++(G a++C a))&&sB (C a) (dl c++G b)&&(rk (dl d) (G a) (C a) (C b)&&rk (dl c) (G b) (C b) (C a))
 |_,_=>bq
def iA.xp (b:iA ic D G C a i q) {id:X} (m:500000<=id):aq (q.app i).h id=aq i.h id:=by obtain⟨k,c,j⟩:=b;have b:iA ic D G C a i q:=⟨k,c,j⟩;obtain⟨_,d,e,_⟩:=b.Dj c;exact K6 (λf=>by have:=(d id f).1;omega) (λl g q=>by have:=(e l g).1;omega)
def iA.sV (d:iA ic D G C a i q) {id:X} (e:id∉C a):aq (q.app i).h id=aq i.h id:=by
 obtain⟨o,f,n⟩:=d;have d:iA ic D G C a i q:=⟨o,f,n⟩;obtain⟨_,g,j,_,k,_⟩:=d.Dj f;by_cases c:id<500000/\id+1500000∈C a
 ·exact k id c.1 c.2
 refine K6 (λl=>?_) (λp m q=>?_)
 ·obtain⟨ax,b⟩:=g id l;rcases b with b|b
  ·exact e b.1
  exact c ⟨ax,b⟩
 subst q;obtain⟨ax,b⟩:=j p m;rcases b with b|b
 ·exact e b
 exact c ⟨ax,b⟩
theorem iA.swap {e:cI} (l:ue D G C m a=bp) (o:iA ic D G C m i e) (B:iA ic D G C a (e.app i) q):iA ic D G C a i q/\iA ic D G C m (q.app i) e/\ky (q.app (e.app i)) (e.app (q.app i)):=by
 unfold ue at l;split at l
 case h_2=>cases l
 rename_i a3 a0 ap an;simp only[cC] at l;obtain⟨⟨⟨c2,J⟩,K⟩,d0,d1⟩:=l;have J:=sB.ok J;have K:=sB.ok K;obtain⟨cv,U⟩:=rk.ok d0;obtain⟨c1,V⟩:=rk.ok d1;obtain⟨ce,ci,co⟩:=Oper.apart_spec c2;obtain⟨bs,T,em,eq,ex,bx⟩:=o.Dj ap;obtain⟨i1,N,d5,d6,d7,av⟩:=B.Dj an;have d9:∀p∈a0.looksAt D,gt (e.app i).g p=fH e.S e.keep (gt i.g p):=λp A=>K5 λj w z y=>ce j (bs j w z) (y▸A);have d8:∀p∈a3.looksAt D,gt (q.app i).g p=fH q.S q.keep (gt i.g p):=λp A=>K5 λj w z y=>co j (i1 j w z) (y▸A);have L:∀j H t I,q.d=Y (j,H)->e.d=Y (t,I)->j≠t:=λj H t I z dl y=>ci t (bs t I dl) (y▸i1 j H z);have E:∀id,id<1000000->id∈G m\/id∈C m\/a3.dst=Y id->id∉C a:=λid h c s=>J id s h (by
  rcases c with c|c|c
  ·simp[c]
  ·simp[c]
  simp[xy c])
 have bl:∀id,id<1000000->id∈G a\/a0.dst=Y id->id∉C m:=λid h c s=>K id s h (by
  rcases c with c|c
  ·simp[c]
  simp[xy c])
 have d4:∀id,id<1000000->id∈C a->id∉C m:=λid h c s=>E id h (.inr (.inl s)) c;have el:yt (G a) e.S e.keep:=by
  refine⟨λid k f=>?_,λid k f=>?_,λid k r R l n f M x=>?_⟩
  ·obtain⟨ax,b⟩:=T id k;rcases b with b|b
   ·exact bl id aa (.inl f) b.1
   exact(c1 id ax b).2.1 f
  ·obtain⟨ax,b⟩:=T id k;rcases b with b|b
   ·exact b.2.resolve_left (bl _ aa (.inl f))
   exact bx id 1 (.ref id []) k ax (by rw[(aa:id+1000000*1+500000=id+1500000)];exact b) (bd _) rfl (λd2 x=>.inl (by simpa[bT] using x))
  obtain⟨_,b⟩:=T id k;obtain⟨a4,Q⟩:=V id r l n f;rcases b with b|b
  ·exact absurd b.1 a4
  exact bx id r R k n (Q b) l M x
 have ek:yt (G m) q.S q.keep:=by
  refine⟨λid k f=>?_,λid k f=>?_,λid k r R l n f M x=>?_⟩
  ·obtain⟨ax,b⟩:=N id k;rcases b with b|b
   ·exact E id aa (.inl f) b.1
   exact(cv id ax b).2.1 f
  ·obtain⟨ax,b⟩:=N id k;rcases b with b|b
   ·exact b.2.resolve_left (E _ aa (.inl f))
   exact av id 1 (.ref id []) k ax (by rw[(aa:id+1000000*1+500000=id+1500000)];exact b) (bd _) rfl (λd2 x=>.inl (by grind [bT]))
  obtain⟨_,b⟩:=N id k;obtain⟨a4,Q⟩:=U id r l n f;rcases b with b|b
  ·grind
  exact av id r R k n (Q b) l M x
 have v:iA ic D G C a i q:=by
  refine B.congr (λO u p A=>?_) (λO u id n=>?_) (λid r l n f=>?_)
  ·grind [Wd]
  ·rw[an] at u;cases u;rcases cS id 500000 with h|h
   ·refine o.sV ?_;rcases n with c|c|c
    ·grind
    ·grind
    grind
   exact o.xp h
  exact o.sV (V id r l n f).1
 have F:iA ic D G C m (q.app i) e:=by
  refine o.congr (λO u p A=>?_) (λO u id n=>?_) (λid r l n f=>?_)
  ·grind [We]
  ·rw[ap] at u;cases u;rcases cS id 500000 with h|h
   ·exact(v.sV (E id aa n)).symm
   exact(v.xp h).symm
  exact(v.sV (U id r l n f).1).symm
 refine⟨v,F,?_,λid=>?_⟩
 ·intro p;rw[cI.tR q,cI.tR e (q.app i),cI.tR e i,cI.tR q i];cases ds:e.d with
  |none=>
   cases ad:q.d with
   |none=>grind [DR]
   |some P=>
    obtain⟨j,w⟩:=P;simp only;split
    ·grind [zX]
    grind [DR]
  |some d3=>
   obtain⟨t,cs⟩:=d3;cases ad:q.d with
   |none=>
    simp only;split
    ·grind [zX]
    grind [DR]
   |some P=>
    obtain⟨j,w⟩:=P;have L:j≠t:=L j w t cs ad ds;simp only;by_cases o:j=p
    ·subst o;rw[au bn,aw (Ne.symm L),au bn];grind [zX]
    rw[aw o,aw o];split
    ·grind [zX]
    grind [DR]
 rcases cS id 500000 with h|h
 ·by_cases s:id∈C a
  ·have am:=d4 id aa s;rw[F.sV am,cI.r9 q,cI.r9 q,o.sV am]
  rw[B.sV s,cI.r9 e,cI.r9 e,v.sV s]
 rw[B.xp h,o.xp h,F.xp h,v.xp h]
def iA.seq {c:aM} (b:ky i c) (d:iA ic D G C a i q):iA ic D G C a c q:=
 d.congr (λ_ _ e _=>.refl (b.g e).symm) (λ_ _ id _=>b.h id) (λid _ _ _ _=>b.h id)
def n2.seq:∀{c:ahb} {d e f:aM},ky d e->n2 ic D G C c d f->n2 ic D G C c e f
 |[],_,_,_,a,h=>a.symm.trans h
 |_::_,_,_,_,a,⟨b,g,i⟩=>⟨b,g.seq a,n2.seq (a.app b) i⟩
theorem n2.front {g:X} {h:ahb}:∀{b:ahb} {a d:aM},(∀x∈b,ue D G C x g=bp)->n2 ic D G C (b++g::h) a d->∃c,iA ic D G C g a c/\n2 ic D G C (b++h) (c.app a) d
 |[],a,d,_,⟨c,e,f⟩=>⟨c,e,f⟩
 |x::b,a,d,i,⟨k,e,f⟩=>by obtain⟨j,o,p⟩:=n2.front (λq r=>i q (by grind)) f;obtain⟨l,m,n⟩:=iA.swap (i x ac) e o;exact⟨j,l,k,m,p.seq n⟩
end
end
section
section
variable {ic:gU} {F:bU bQ} {iG h5:X->ahb}
theorem zR {D:Type} {y:aM->bv D} {C:D}:∀{w:ahb} {b:aM},sM ic F iG h5 w b y=Y C->∃c,n2 ic F iG h5 w b c/\y c=Y C
 |[],b,a=>⟨b,ky.refl b,a⟩
 |i::w,b,a=>by
  simp only[sM] at a;split at a
  ·cases a
  rename_i o m;split at a
  ·rename_i A;obtain⟨k,s,t,u⟩:=Mk a;obtain⟨c,f,j⟩:=zR u;exact⟨c,⟨k,⟨o,m,.inl ⟨by grind [kP],s,t⟩⟩,f⟩,j⟩
  rename_i I x A;split at a
  case h_2=>cases a
  rename_i r e G z;split at a
  case h_3=>cases a
  case h_2=>
   rename_i K B;cases l:gB ic.n ic.pin e with
   |false=>grind
   |true=>
   rw[l] at a;obtain⟨c,f,j⟩:=zR a;refine⟨c,⟨xY e,⟨o,m,.inr ⟨?_,e,z,l,bn⟩⟩,f⟩,j⟩;grind [kP]
  rename_i d B;cases l:gB ic.n ic.pin e with
  |false=>grind
  |true=>
  rw[l] at a;simp only[bG] at a;have p:∀q,d=q->ky ⟨(r,.val .bool q)::b.g,b.h⟩ b:=λq v=>⟨λJ=>by
   grind [iV],λ_=>rfl⟩
  split at a
  ·rename_i v;obtain rfl:d=x:=(by grind);obtain⟨k,s,t,u⟩:=Mk a;obtain⟨c,f,j⟩:=zR u;have E:iA ic F iG h5 i ⟨(r,.val .bool d)::b.g,b.h⟩ k:=by
    refine⟨o,m,.inl ⟨?_,s,t⟩⟩;unfold kP;rw[A];simp only[G,(p d bn).g r,B];simp
   exact⟨c,⟨k,E.seq (p d bn),f.seq ((p d bn).app k)⟩,j⟩
  rename_i v;have H:d=!x:=by cases d<;>cases x<;>first|rfl|cases v
  obtain⟨c,f,j⟩:=zR a;refine⟨c,⟨xY e,⟨o,m,.inr ⟨?_,e,z,l,bn⟩⟩,f.seq ((p _ H).app (xY e))⟩,j⟩;grind [kP]
structure lN where
 i:X
 d:ahb
 aq:ahb
 ps:ahb
 iG:ahb
 h5:ahb
def sE:ahb->ahb->bA
 |[],[]=>bp
 |a::c,b::d=>bI a b&&sE c d
 |_,_=>bq
theorem p2:∀{c d:ahb},sE c d=bp->c=d
 |[],[],_=>rfl
 |a::c,e::d,b=>by simp only[sE,cC] at b;rw[fu b.1,p2 b.2]
 |[],_::_,b=>by cases b
 |_::_,[],b=>by cases b
def qj (F:bU bQ) (iG h5:X->ahb) (a:lN):bA:=match F[a.i]? with
 |some b=>sE (dl b) a.d&&sE (b.looksAt F) a.aq&&sE (qf F a.i) a.ps&&sE (iG a.i) a.iG&&sE (h5 a.i) a.h5
 |none=>bq
def Ge (a b:lN):bA:=sA a.d b.aq&&sA a.d b.d&&sA b.d a.aq&&sB b.h5 (a.d++(a.iG++a.h5))&&sB a.h5 (b.d++b.iG)&&(rk a.d a.iG a.h5 b.h5&&rk b.d b.iG b.h5 a.h5)
theorem TE {j h:lN} (b:qj F iG h5 j=bp) (a:qj F iG h5 h=bp) (c:Ge j h=bp):ue F iG h5 j.i h.i=bp:=by
 unfold qj at b a;split at b
 case h_2=>cases b
 rename_i v q;split at a
 case h_2=>cases a
 rename_i u p;simp only[cC] at b a;obtain⟨⟨⟨⟨w,x⟩,D⟩,y⟩,z⟩:=b;obtain⟨⟨⟨⟨i1,r⟩,A⟩,s⟩,t⟩:=a;unfold Ge at c;rw[<-p2 w,<-p2 x,<-p2 y,<-p2 z,<-p2 i1,<-p2 r,<-p2 s,<-p2 t] at c;simp only[cC] at c;obtain⟨⟨⟨⟨⟨e,f⟩,k⟩,l⟩,m⟩,n,o⟩:=c;unfold ue;simp only[q,p,l,m,n,o,ajY];have e:=sA.ok e;have f:=sA.ok f;have k:=sA.ok k;unfold Oper.apart;rw[cC];constructor
 ·cases g:v.dst with
  |none=>rfl
  |some d=>
   have B:=e d (xy g);have C:=f d (xy g);simp only[cC,tv];refine⟨?_,?_⟩
   ·grind
   rw[bne_iff_ne];grind [xy]
 cases g:u.dst with
 |none=>rfl
 |some d=>
  simp_all [Bool.not_eq_true,List.contains_iff_mem,tv,xy]
def ls (a b:X):bA:=bI (Nat.land (Nat.shiftRight a b) 1) 1
def FK (a b:X):X:=akR a (Nat.shiftLeft 1 b)
theorem yC:ls a m=bp↔a.testBit m=bp:=by simp_all [aiP,ahg,fu,akS,Nat.and_one_is_mod,Nat.testBit_eq_decide_div_mod_eq,bI,ls]
theorem Ln {b:X} (c:ls (akR m b) a=bp):ls m a=bp\/ls b a=bp:=by simp_all [alP,yC]
theorem Lm {c:X} (b:ls (FK m c) a=bp):ls m a=bp\/a=c:=by
 rcases Ln b with b|b
 ·grind
 simp_all [yC,aj0,mR,akT,aiP]
theorem By (b:ls 0 a=bp):False:=by grind [yC]
def yz (a:ahd):ahb->X
 |[]=>0
 |p::b=>akR (FK ((jm.aq a p).getD 0) p) (yz a b)
theorem KX {e:ahd}:∀{d:ahb} {b:X},ls (yz e d) b=bp->∃p∈d,b=p\/∃c,jm.aq e p=Y c/\ls c b=bp
 |[],_,a=>(By a).elim
 |p::d,b,a=>by
  rcases Ln a with a|a
  ·refine⟨p,ac,?_⟩;rcases Lm a with a|a
   ·cases g:jm.aq e p with
    |none=>grind [By]
    |some c=>grind
   omega
  obtain⟨i,h,f⟩:=KX a;grind
def BC (c:X):X->bm lN->ahd->bm lN->bA
 |_,_,_,[]=>bp
 |sm,d,b,a::f=>
  a.ps.all (λg=>ls sm g)&&(d.all λe=>ls (yz b a.ps) e.i||Ge e a)&&!(ls sm a.i)&&ca a.i c&&BC c (FK sm a.i) (a::d) ((a.i,yz b a.ps)::b) f
def k0 (a:bm lN):ahb:=a.map (·.i)
def ua (F:bU bQ) (iG h5:X->ahb) (a:bm lN):bA:=a.all (qj F iG h5)&&BC F.size 0 [] [] a&&((bH F.size).all λb=>eR b (k0 a))&&b2 a.length F.size
def A2 (F:bU bQ) (a:X->Prop):Prop:=∀b,a b->∀c∈qf F b,a c
theorem qj.ps {b:lN} (a:qj F iG h5 b=bp):qf F b.i=b.ps:=by
 unfold qj at a;split at a
 case h_2=>cases a
 simp only[cC] at a;grind [p2]
theorem F9:∀{q j:bm lN} {o:X} {s:ahd},BC F.size o j s q=bp->(∀r∈q,qj F iG h5 r=bp)->(∀r∈j,qj F iG h5 r=bp)->(∀h,ls o h=bp->h∈k0 j)->(∀h∈k0 j,ls o h=bp)->(∀e v,jm.aq s e=Y v->∀b,A2 F b->b e->∀a,ls v a=bp->b a)->∀f g p,k0 q=f++g::p->(∀e∈qf F g,e∈k0 j\/e∈f)/\(∀b,A2 F b->(∀e∈qf F g,b e)->∀a,(a∈k0 j\/a∈f)->¬b a->ue F iG h5 a g=bp)/\g∉k0 j/\g∉f/\g<F.size
 |[],_,_,_,t,_,_,_,_,M,f,g,p,m=>by cases f<;>cases m
 |r::q,j,o,s,t,z,S,d,J,M,f,g,p,m=>by
  simp only[BC,cC,g0,tv] at t;obtain⟨⟨⟨⟨E,G⟩,x⟩,H⟩,I⟩:=t;have L:=z r ac;have K:=qj.ps L;have x:r.i∉k0 j:=λk=>(by grind);have N:∀b,A2 F b->(∀e∈qf F r.i,b e)->∀a,ls (yz s r.ps) a=bp->b a:=(by grind [KX]);cases f with
  |nil=>
   cases m;refine⟨λe l=>.inl (d _ (E e (K▸l))),λb n l a c y=>?_,x,ac,gV H⟩;rcases c with c|c
   ·obtain⟨P,O,rfl⟩:=eP.1 c;have:=G P O;rcases jl _ _▸this with d|d
    ·grind
    grind [TE]
   grind
  |cons Q f=>
   simp only[k0,h7,nW,hP] at m;obtain⟨rfl,m⟩:=m;obtain⟨B,C,w,R,D⟩:=F9 I (λa c=>z a (by grind)) (λa c=>by
    grind) (λh k=>by
    rcases Lm k with k|rfl
    ·exact g6 _ (d h k)
    ·exact ng ..) (λh k=>by
    rw[yC];show(o|||(1<<<r.i)).testBit h=bp;rw[alP,jl];rcases fR.1 k with rfl|k
    ·grind
    ·left;exact yC.1 (J h k)) (λe v u b n l a c=>by
    rw[dg] at u;split at u
    ·rename_i A;cases u;subst A;exact N b n (n _ l) a c
    grind) f g p m
   refine⟨λe l=>?_,λb n l a c y=>C b n l a ?_ y,λd=>w (g6 _ d),λd=>?_,D⟩
   ·rcases B e l with d|d
    ·rcases fR.1 d with rfl|d
     ·grind
     exact .inl d
    grind
   ·rcases c with c|c
    ·exact .inl (g6 _ c)
    rcases fR.1 c with rfl|c
    ·exact .inl (ng ..)
    grind
   rcases fR.1 d with rfl|d
   ·exact w (ng ..)
   grind
variable {E:fy} {C:eZ}
theorem iA.wp (h:ic.ae E C) (d:iA ic F iG h5 a i q) {b:Act} (g:gN C i b.tmps v) {next:Act->bD->Prop} (p:∀c j,c.defers=b.defers->gN C (q.app i) c.tmps j->next c j):wpOp E.P F o a next b v:=by
 obtain⟨w,r,d⟩:=d;obtain⟨k,t,l,e⟩:=id g;unfold wpOp;simp only[r];rcases d with⟨f,m,_⟩|⟨f,u,n,s,rfl⟩
 ·rw[f.ok e,au bn];refine .inl (Mj h m b v g _ _ ?_);grind
 rw[f.ok e,aw ac,n];exact p _ v bn ⟨k,t,l,e.put (gB.ok h s) (.df bW)⟩
def left (a:ahb) (c:bU bA):ahb:=a.filter λb=>!c.getD b bp
theorem NC {b:bU bA} {c:ahb} (g:left f b=w++a::c) (h:a∉w) (i:a∉c) (j:a<b.size):left f (b.setIfInBounds a bp)=w++c:=by
 have:left f (b.setIfInBounds a bp)=(left f b).filter λd=>!(d==a):=by
  unfold left;rw[A6];refine pA λd _=>?_;by_cases e:a=d
  ·simp_all
  rw[akU bp e];grind
 grind [ain,List.filter_cons_of_neg]
theorem Je (c:F[a]?=Y h):m∈qf F a↔∃b∈h.after,akQ .any b=bp/\b.on=m:=by grind [qf]
theorem SB (d4:ic.ae E C) {R:bm lN} (dl:f=k0 R) (r:ua F iG h5 R=bp) {t:aM} {ds:bm Deferred} (am:∀d g,d.defers=ds->gN C t d.tmps g->o .normal d g):∀(q:X) (a:bU bA) (d:Act) (g:bD) (w:aM),a.size=F.size->(left f a).length<=q->A2 F (λe=>a.getD e bp=bp/\e<F.size)->n2 ic F iG h5 (left f a) w t->gN C w d.tmps g->d.defers=ds->wpAny E.P .any F o q a d g:=by
 unfold ua at r;simp only[cC,g0,h9] at r;obtain⟨⟨⟨em,r⟩,an⟩,_⟩:=r;have I:=F9 r em ac (λe d5=>(By d5).elim) (by simp[k0]) (λH f6 c=>by cases c);rw[<-dl] at I an;have Q:∀i,i<F.size->i∈f:=λi M=>hd.1 (an i M);have fT:∀{a:bU bA} {e:X},a.size=F.size->e<F.size->a.getD e bp=bp->a.getD e bq=bp:=(by grind);have a4:∀{a:bU bA} {i:X},a.size=F.size->i∈akV .any F a->i<F.size/\a.getD i bp=bq/\∃m,F[i]?=Y m/\∀b∈m.after,akQ .any b=bp->a.getD b.on bq=bp:=(by grind [Array.getElem?_eq_some_iff,mem_ready]);have first:∀{a:bU bA} {i:X} {K:ahb},a.size=F.size->left f a=i::K->i∈akV .any F a:=by
  intro a i K D N;have u:i∈left f a:=(by grind);have d3:i∈f:=(hx.1 u).1;have eq:a.getD i bp=bq:=(by simpa using(hx.1 u).2);obtain⟨h,n,z⟩:=yi d3;obtain⟨ci,_,_,x,cs⟩:=I h i n z;obtain⟨m,v⟩:∃m,F[i]?=some m:=⟨_,AY cs⟩;refine mem_ready.2 ⟨eq,m,v,λb k s=>?_⟩;have p:b.on∈qf F i:=(Je v).2 ⟨b,k,s,bn⟩;have f1:b.on∈h:=by
   rcases ci _ p with c|c
   ·cases c
   omega
  have f3:∀j∈h,a.getD j bp=bp:=by
   intro j G;cases ex:a.getD j bp with
   |true=>rfl
   |false=>
    obtain⟨J,bl,ad⟩:=yi G;have:left f a=left J a++j::(left bl a++left (i::n) a):=(by show ajg _ f=_;rw[z,ad];simp only[left,pz,nY,ex,jb,nW];rfl);rw[N] at this;cases c2:left J a with
    |nil=>grind
    |cons f7 fp=>
     rw[c2] at this;cases this;have:i∈left J a:=(by grind);exact absurd (by rw[ad];exact rX _ (hx.1 this).1) x
  have a3:b.on<F.size:=(by have:b.on∈f:=(by grind);obtain⟨ft,fz,f0⟩:=yi this;grind);grind
 intro q
 induction q with
 |zero=>
  intro a d g w D d7 L l A B;have d9:left f a=[]:=akW.1 aa;rw[d9] at l;refine⟨?_,am d g B (A.seq l)⟩;cases el:akV .any F a with
  |nil=>rfl
  |cons i fp=>
   obtain⟨y,cv,_⟩:=a4 D (i:=i) (by grind);have:i∈left f a:=hx.2 ⟨Q i y,by grind⟩;grind
 |succ q fn=>
  intro a d g w D d7 L l A B;constructor
  ·intro el;cases N:left f a with
   |nil=>rw[N] at l;exact am d g B (A.seq l)
   |cons i K=>
    grind
  intro i M;obtain⟨y,cv,m,v,T⟩:=a4 D M;have u:i∈left f a:=hx.2 ⟨Q i y,by grind⟩;obtain⟨h,n,z⟩:=yi (Q i y);obtain⟨_,co,_,x,_⟩:=I h i n z;have ap:i∉n:=(by intro u;obtain⟨bs,bx,f2⟩:=yi u;have:=(I (h++i::bs) i bx (by grind)).2.2.2.1;grind);have O:left f a=left h a++i::left n a:=(by grind [left,ajg]);have d1:∀j∈left h a,ue F iG h5 j i=bp:=(by intro j G;obtain⟨fl,f5⟩:=hx.1 G;refine co _ L (λH p=>?_) j (.inr fl) (λG=>by grind);obtain⟨b,k,s,rfl⟩:=(Je v).1 p;have U:=T b k s;have a3:b.on<a.size:=(by grind);grind);rw[O] at l;obtain⟨b,k,f4⟩:=n2.front d1 l;refine k.wp d4 A (λce fs d2 d0=>fn _ ce fs (b.app w) (by grind) ?_ ?_ ?_ d0 (d2.trans B))
  ·rw[NC O (λc=>x (hx.1 c).1) (λc=>ap (hx.1 c).1) aa];grind
  ·intro e ⟨av,d6⟩ H p;by_cases a0:i=e
   ·subst a0;obtain⟨b,k,s,rfl⟩:=(Je v).1 p;have U:=T b k s;have a3:b.on<a.size:=by
     grind
    have V:=getD_set_true (i:=i) U;refine⟨?_,aa⟩;have d8:b.on<(a.setIfInBounds i bp).size:=(by grind);have ao:∀S,(a.setIfInBounds i bp).getD b.on S=(a.setIfInBounds i bp)[b.on]:=λS=>(by simp only[Array.getD,d8,aip];rfl);grind
   rw[akU bp a0] at av;obtain⟨V,c1⟩:=L e ⟨av,d6⟩ H p;refine⟨?_,c1⟩;by_cases ek:i=H
   ·grind
   rw[akU bp ek];exact V
  rw[NC O (λc=>x (hx.1 c).1) (λc=>ap (hx.1 c).1) aa];omega
theorem J.draw (A:E.P.follows .mixedOrders=bp) (x:ic.ae E C) {g:aM->bv b} {h:b} {id:X} {a:bm lN} (c:ua F iG h5 a=bp) (e:sM ic F iG h5 (k0 a) i g=Y h) (r:∀j,g j=Y h->z .normal j):J E C (.region id F bp) i z:=by
 obtain⟨d,K,p⟩:=zR e;intro n H f u;refine wp_region_any A ?_;have L:left (k0 a) (akD F.size bq)=k0 a:=(by refine mh.2 λB w=>?_;unfold ua at c;simp only[cC,g0] at c;obtain⟨k,l,q⟩:=yi w;have:=(F9 c.1.1.2 c.1.1.1 ac (λD y=>(By y).elim) (by simp[k0]) (λQ R e=>by cases e) k B l q).2.2.2.2;simp_all);have O:(k0 a).length<=F.size:=(by simp_all [gV,e8,cC,k0,ua]);refine SB x bn c (t:=d) (ds:=[]) (λI S v s=>⟨d,r d p,s,v⟩) F.size _ n _ i ac (by grind) ?_ (by grind) ?_ u
 ·intro D ⟨M,N⟩;simp_all
 obtain⟨m,G,o,f⟩:=f;exact⟨m,G,o,f.VG (hn.refl H).drew⟩
end
end
section
def j4:bm aZ->ai->ai
 |[],e=>jQ e
 |.deref::a,.optr d=>.optr (j4 a d)
 |.unst::a,.st d=>.st (j4 a d)
 |.fst::a,.pr b c=>.pr (j4 a b) c
 |.snd::a,.pr b c=>.pr b (j4 a c)
 |_,e=>e
def oe:bm aZ->ai->bA
 |[],e=>rf e
 |.deref::a,.optr b=>oe a b
 |.unst::a,.st b=>oe a b
 |.fst::a,.pr c _=>oe a c
 |.snd::a,.pr _ d=>oe a d
 |_,_=>bq
def uM:∀(a:bm aZ) (e:ai),oe a e=bp->(j4 a e).den=e.den
 |[],e,_=>ri e
 |.deref::a,.optr f,b=>uM a f b
 |.unst::a,.st f,b=>uM a f b
 |.fst::a,.pr c d,b=>by show((j4 a c).den×d.den)=(c.den×d.den);rw[uM a c b]
 |.snd::a,.pr c d,b=>by show(c.den×(j4 a d).den)=(c.den×d.den);rw[uM a d b]
def w9:∀(a:bm aZ) (c:ai),oe a c=bp->(j4 a c).size=c.size
 |[],c,_=>sK c
 |.deref::a,.optr f,b=>rfl
 |.unst::a,.st f,b=>w9 a f b
 |.fst::a,.pr d e,b=>by simp only[j4,ahE,w9 a d b]
 |.snd::a,.pr d e,b=>by simp only[j4,ahE,w9 a e b]
def od (b:bm aZ) (a:ai) (c:oe b a=bp) (d:a.den):(j4 b a).den:=cast (uM b a c).symm d
theorem AC {E:eD->X->Prop} {w:bD}:∀{p:bm aZ} {τ:ai} {m:ag5} {x:τ.den} {h:ahb} (c:oe p τ=bp),aS E w τ m x h->h.Nodup->∃f f2:ahb,(∀a,a∈h↔a∈f\/a∈f2)/\(∀a∈f,a∉f2)/\f.Nodup/\∀g:eD->X->Prop,(∀o a,E o a->g o a)->(∀a∈f2,g .bh a)->aS g w (j4 p τ) m (od p τ c x) f
 |[],τ,m,x,h,c,i,e=>⟨[],h,ac,ac,List.nodup_nil,λg j n=>vf j c i n⟩
 |.deref::p,.optr y,m,x,h,c,i,e=>by
  obtain⟨a,L,l,G,r,rfl,H,I,J,K⟩:=i;rw[jZ] at e;obtain⟨f,f2,ax,s,t,u⟩:=AC (p:=p) (τ:=y) c K e.2;refine⟨a::f,f2,λb=>by simp only[fR,ax];grind,λb d=>?_,?_,λg j n=>?_⟩
  ·rcases fR.1 d with rfl|d
   ·exactλl=>e.1 ((ax b).2 (.inr l))
   exact s b d
  ·rw[jZ];exact⟨λl=>e.1 ((ax a).2 (.inl l)),t⟩
  have F:=w9 p y c;exact⟨a,L,f,G,r,bn,by rw[F];exact H,I,by rw[F];exact J,u g j n⟩
 |.unst::p,.st y,m,x,h,c,i,e=>AC (p:=p) (τ:=y) (x:=x) c i e
 |.fst::p,.pr k a,m,x,h,c,i,e=>by
  obtain⟨z,A,rfl,r,B⟩:=i;rw[jY] at e;obtain⟨f,f2,ax,s,t,u⟩:=AC (p:=p) (τ:=k) c r e.1;refine⟨f++A,f2,λb=>by simp only[h8,ax];grind,λb d=>?_,?_,λg j n=>?_⟩
  ·rcases h8.1 d with d|d
   ·exact s b d
   exactλl=>e.2.2 b ((ax b).2 (.inr l)) b d bn
  ·rw[jY];exact⟨t,e.2.1,λb d v D=>e.2.2 b ((ax b).2 (.inl d)) v D⟩
  have q:od (.fst::p) (.pr k a) c x=(od p k c x.1,x.2):=F5 (uM p k c).symm bn _ x;refine⟨f,A,bn,?_,?_⟩
  ·rw[w9 p k c,q];exact u g j n
  rw[w9 p k c,q];exact B.mono (λo a C=>⟨j o a C,cp _ _⟩) λ_ _=>cp _ _
 |.snd::p,.pr k a,m,x,h,c,i,e=>by
  obtain⟨z,A,rfl,r,B⟩:=i;rw[jY] at e;obtain⟨f,f2,ax,s,t,u⟩:=AC (p:=p) (τ:=a) c B e.2.1;refine⟨z++f,f2,λb=>by simp only[h8,ax];grind,λb d=>?_,?_,λg j n=>?_⟩
  ·rcases h8.1 d with d|d
   ·exactλl=>e.2.2 b d b ((ax b).2 (.inr l)) rfl
   exact s b d
  ·rw[jY];exact⟨e.1,t,λb d v D=>e.2.2 b d v ((ax v).2 (.inl D))⟩
  have q:od (.snd::p) (.pr k a) c x=(x.1,od p a c x.2):=F5 bn (uM p a c).symm _ x;refine⟨z,f,bn,?_,?_⟩
  ·rw[q];exact r.mono (λo a C=>⟨j o a C,cp _ _⟩) λ_ _=>cp _ _
  rw[q];exact u g j n
def p3 (id:X):aj->aj
 |.ref b []=>.ref b []
 |a=>bif a.fm [id] then .dead else a
def HF (id:X) (b:bm aZ) (a:aD) (d:oe b a.1=bp) (st:aM):aM:=⟨st.g.map λc=>(c.1,p3 id c.2),(id,⟨j4 b a.1,od b a.1 d a.2⟩)::del [id] st.h⟩
def Vq (id:X) (a:aj):(∃b,a=.ref b []/\p3 id a=.ref b [])\/(p3 id a=.dead)\/(p3 id a=a/\a.fm [id]=bq):=by
 have d:∀a:aj,p3 id a=(bif a.fm [id] then .dead else a)->(∃b,a=.ref b []/\p3 id a=.ref b [])\/(p3 id a=.dead)\/(p3 id a=a/\a.fm [id]=bq):=by
  intro a c;cases e:a.fm [id] with
  |true=>rw[e] at c;exact .inr (.inl c)
  |false=>rw[e] at c;exact .inr (.inr ⟨c,bn⟩)
 cases a with
 |ref b f=>
  cases f with
  |nil=>exact .inl ⟨b,bn,bn⟩
  |cons g f=>exact d _ rfl
 |_=>exact d _ rfl
def Vr:∀(a:bm aZ) (c:ai) (b:ag5),a≠[]->oe a c=bp->cW (j4 a c) b=cW c b
 |[],_,_,h,_=>absurd rfl h
 |.deref::a,.optr f,b,_,_=>rfl
 |.unst::a,.st f,b,_,_=>rfl
 |.fst::a,.pr d e,b,_,_=>rfl
 |.snd::a,.pr d e,b,_,_=>rfl
section
variable {C:eZ} {st:aM} {A:ag3} {w:bD}
def cM.Vk (o:cM C st A w O x y) {id:X} (J:j≠[]) (m:aq st.h id=Y P) (c:oe j P.1=bp):gN C (HF id j P c st) A w:=by
 obtain⟨R,T,u⟩:=o.tree id P m;obtain⟨v,f2,ax,L,N,Q⟩:=AC c R T;have G:∀n a,bf O C.B n a->bf (λa=>O a\/a∈f2) C.B n a:=by
  intro n a b;cases n
  ·exact .inl b
  exact b.imp .inl (λc=>c)
 have D:=o.eC (S:=[id]) (keep:=[]) (new:=[(id,⟨j4 j P.1,od j P.1 c P.2⟩)]) (rtn:=x) (fpn:=λ_=>v) (w':=w) (I':=λa=>O a\/a∈f2) ⟨bd _,bn,bn,bn,λ_ _ _=>rfl,λ_ _=>.refl _ _,λ_ c=>.inl c,λa b=>b.imp (λc=>c) λb=>⟨(u a ((ax a).2 (.inr b))).2.2.1,.inr ⟨id,ac,P,m,(ax a).2 (.inr b)⟩⟩,(λd U e=>by
    rw[dg] at e;split at e
    ·rename_i f;subst f;cases e;refine⟨.inl ac,Q _ G (λa b=>.inr b),N,λa b=>⟨λl=>?_,(u a ((ax a).2 (.inl b))).2.2.1,.inr ⟨id,ac,P,m,(ax a).2 (.inl b)⟩⟩⟩;rcases l with l|l
     ·exact(u a ((ax a).2 (.inl b))).1 l
     exact L a b l
    cases e),
   (λd ad U V e r z=>by
    rw[dg] at e r;split at e
    ·split at r
     ·omega
     cases r
    cases e),(λf q=>by cases q),(λf q=>by cases q)⟩
 refine⟨_,_,_,{D with tmp:=λi=>?_}⟩;have s:=o.tmp i;have k:=D.tmp i;rw[show gt (aM.mk (ahw [id] [] st.g) ([(id,⟨j4 j P.1,od j P.1 c P.2⟩)]++del [id] st.h)).g i=fH [id] [] (gt st.g i) from p6 _ _ _ _] at k;have H:gt (HF id j P c st).g i=p3 id (gt st.g i):=HL (p3 id) rfl st.g i;rw[H];generalize gt st.g i=F at s k;generalize A.getD i bW=V at s k;rcases Vq id F with⟨d,rfl,f⟩|f|⟨f,K⟩
 ·rw[f];by_cases e:d=id
  ·subst e;cases s with|ref E I=>
   rw[m] at E;cases E;obtain⟨rfl,rfl,rfl⟩:=ahI.1 I;have:=cP.ref (M:=bf (λa=>O a\/a∈f2) C.B) (w:=w) (h:=[(d,(⟨j4 j P.1,od j P.1 c P.2⟩:aD))]++del [d] st.h) (rt:=fh [(d,(⟨j4 j P.1,od j P.1 c P.2⟩:aD))] x x) (fp:=fh [(d,(⟨j4 j P.1,od j P.1 c P.2⟩:aD))] (λ_=>v) y) (id:=d) (p:=[]) (t:=⟨j4 j P.1,od j P.1 c P.2⟩) (τ':=j4 j P.1) (loc:=bo) (cs:=x d)
    (by rw[yp,dg,au bn]) (ahI.2 ⟨bn,bn,by unfold fh;split<;>rfl⟩)
   rw[Vr j P.1 _ J c] at this;exact this
  have b:bI id d=bq:=by
   cases b:bI id d with
   |false=>rfl
   |true=>exact absurd (fu b).symm e
  have z:(aj.ref d []).fm [id]=bq:=(by simp[ahs,bT,eR,b]);rw[J9 z] at k;exact k
 ·rw[f];exact .dead _
 rw[f];rw[J9 K] at k;exact k
end
end
section
section
variable {E:fy} {C:eZ} {ic:gU}
def ye.store (g:ye p c) {w:bD} {b o:X} {v:Value} (k:v.cells=#[v]) (h:v.oneCell'=bp) (e:iJ w b o (o+1)):(storeVar c ⟨b,o,bo⟩ v).run p w=.ok () (w.setCells b o [v]):=by obtain⟨n,x,m,ax,l,q,r,s,t⟩:=g;have j:=run_storeCells_cells (P:=p) b o [v] 0 w (λd a=>by simpa using(e (o+d) aa (by simp at a;omega)).1) (λd a=>by simpa using(e (o+d) aa (by simp at a;omega)).2) (λu f=>by rw[gj] at f;subst f;exact h);have i:(ah1 c).run p w=.ok 1 w:=(by simp[ah1,ahL,ax,l]);simp only[storeVar,k,bY,i,b1];simpa using j
def Kd (a:h.guard=bo) (b:X->bv bA):ajW h b=bp:=by unfold ajW;rw[a]
end
end
section
def F3 (ic:gU) (q:bU bQ) (c:aM):bv aM:=
 match q.toList with
 |[d,e,f]=>match d.guard,e.guard,f.guard with
  |none,bo,bo=>match d.op,d.dst,e.op,e.dst,f.op,f.dst with
   |.makeFunc (.func k) p j,Y b,.alloc i,Y a,.store l (.tmp m) (.tmp o),bo=>match aq ic.tt i with
    |some (.fn _ _)=>bif (bI i l&&(bI a m&&(bI b o&&!(bI a b))))&&(p.isEmpty&&(gB ic.n ic.pin a&&gB ic.n ic.pin b)) then
     Y ⟨(a,.hA (.eA k (j.toList.map (aU c.g))))::(b,.eA k (j.toList.map (aU c.g)))::c.g,c.h⟩ else bo
    |_=>bo
   |_,_,_,_,_,_=>bo
  |_,_,_=>bo
 |_=>bo
section
variable {E:fy} {C:eZ} {ic:gU}
theorem J.yG (am:ic.ae E C) {N:bU bQ} {id:X} {ap:aM} (f:F3 ic N i=Y ap) (fl:z .normal ap):J E C (.region id N bq) i z:=by
 have an:=λa3=>gB.ok am (d:=a3);have ft:=am.1;unfold F3 at f;split at f
 case h_2=>cases f
 rename_i r s t ii;split at f
 case h_2=>cases f
 rename_i dl ds d0;split at f
 case h_2=>cases f
 rename_i a Q q m k l a4 bl cs f1 cv i8 c1 jp c2;split at f
 case h_2=>cases f
 rename_i i3 lc A;cases hcond:(bI k a4&&(bI l bl&&(bI m cs&&!(bI l m))))&&(Q.isEmpty&&(gB ic.n ic.pin l&&gB ic.n ic.pin m)) with
 |false=>grind
 |true=>
 rw[hcond] at f;simp only[bG,eU] at f;subst f;simp only[cC] at hcond;obtain⟨⟨bs,bx,ce,go⟩,gs,ci,co⟩:=hcond;obtain rfl:=fu bs;obtain rfl:=fu bx;obtain rfl:=fu ce;have ib:¬l=m:=λgt=>(by grind);have U:=an _ ci;have ad:=an _ co;rw[ft] at A;obtain⟨fT,kd,kg,le,f8,f9,_,gc,ge⟩:=E.ok k _ A;have A:ye E.P k:=⟨fT,.nilFunc,_,f8,f9,gc,bn,ge,bn⟩;have lb:aiu.cells.size=1:=rfl;have em:Q=#[]:=(by grind);subst em;obtain rfl:N=#[r,s,t]:=(by grind);rintro e w ⟨G,O,I,K⟩ d7;have gf:(#[r,s,t]:bU bQ)[0]?=Y r:=rfl;have gi:(#[r,s,t]:bU bQ)[1]?=Y s:=rfl;have gl:(#[r,s,t]:bU bQ)[2]?=Y t:=rfl;have f5:(bL e.eval r).run E.P w=.ok (.value (.func (.func a) #[] (q.map e.eval))) w:=(by simp[bL,f1,Instr.makeFunc]);have i0:q.toList.length=(q.map e.eval).size:=ac;have fz:∀(x:X) (y:Value),(q.map e.eval)[x]?=Y y->∃F,q.toList[x]?=Y F/\y=e.eval F:=λx y hw=>(by grind);generalize q.map e.eval=c at*;generalize L:e.put (Y m) (.func (.func a) #[] c)=u;have hs:m<e.tmps.size:=(by rw[K.n];exact ad.1);have hi:l<e.tmps.size:=(by rw[K.n];exact U.1);have fp:u.tmps=e.tmps.setIfInBounds m (.func (.func a) #[] c):=(by rw[<-L];rfl);have d8:u.defers=e.defers:=(by rw[<-L];rfl);have f6:(bL u.eval s).run E.P w=.ok (.value (.pointer (Y ⟨w.heap.size,0,bo⟩))) (w.alloc (.cells aiu.cells k)):=(by simp_all [bL,Instr.alloc,ahu,ahL,newVar,ahV]);generalize M:u.put (Y l) (.pointer (Y ⟨w.heap.size,0,bo⟩))=p;have fs:p.tmps=u.tmps.setIfInBounds l (.pointer (Y ⟨w.heap.size,0,bo⟩)):=(by rw[<-M];rfl);have d9:p.defers=u.defers:=(by rw[<-M];rfl);have d6:p.tmps.getD l bW=.pointer (Y ⟨w.heap.size,0,bo⟩):=(by simp_all);have ek:p.tmps.getD m bW=.func (.func a) #[] c:=(by simp_all);have hr:((w.alloc (.cells aiu.cells k)).cell? ⟨w.heap.size,0,bo⟩).isSome=bp:=(by simp_all);have fn:(w.alloc (.cells aiu.cells k)).heap.size=w.heap.size+1:=(by simp_all);have el:iJ (w.alloc (.cells aiu.cells k)) w.heap.size 0 (0+1):=akL aa;have D:hn w (w.alloc (.cells aiu.cells k)):=ah4 w _;generalize i1:w.alloc (.cells aiu.cells k)=j at*;have f7:(bL p.eval t).run E.P j=.ok .skip (j.setCells w.heap.size 0 [.func (.func a) #[] c]):=(by have io:=A.store (w:=j) (b:=w.heap.size) (o:=0) (v:=.func (.func a) #[] c) rfl rfl el;have ao:p.eval (.tmp l)=.pointer (Y ⟨w.heap.size,0,bo⟩):=d6;have hc:p.eval (.tmp m)=.func (.func a) #[] c:=ek;simp_all [bL,Instr.storeAt,aiE]);have f0:∀H:b4->Act->bD->Prop,H .normal p (j.setCells w.heap.size 0 [.func (.func a) #[] c])->wpOps E.P #[r,s,t] H [0,1,2] e w:=(by intro H d3;simp only[wpOps,gf,gi,gl];rw[au (Kd dl _)];refine .inl ?_;unfold ahp;rw[f5,alQ,cv,L,au (Kd ds _)];refine .inl ?_;rw[f6,alQ,c1,M,au (Kd d0 _)];refine .inl ?_;rw[f7,Oper.upon_skip,c2];exact d3);refine wp_region (f0 _ ?_);have ex:(j.setCells w.heap.size 0 [.func (.func a) #[] c]).cell? ⟨w.heap.size,0,bo⟩=Y (.func (.func a) #[] c):=
  ajc w.heap.size [.func (.func a) #[] c] 0 j (λi2 hv=>by
   grind) 0 ac
 have eq:hn w (j.setCells w.heap.size 0 [.func (.func a) #[] c]):=(by obtain⟨f2,f3,f4⟩:=ph w.heap.size [.func (.func a) #[] c] 0 j;exact⟨f2.trans D.os,f3.trans D.tape,f4.trans D.output,by grind [tg],λb d5=>(xV _ _ _ _ _ aa).trans (D.heap b d5)⟩);have is:(j.setCells w.heap.size 0 [.func (.func a) #[] c]).heap.size=w.heap.size+1:=(by rw[tg,fn]);generalize j.setCells w.heap.size 0 [.func (.func a) #[] c]=a0 at*;have T:cM C i e.tmps a0 (λb=>G b\/b=w.heap.size) O I:=by
  have:=K.ext (I':=λb=>G b\/b=w.heap.size) (rtn:=O) (fpn:=I) eq (λ_ d1=>.inl d1) (by
   grind) (new:=[]) .nil
  exact this
 have V:cP (bf (λb=>G b\/b=w.heap.size) C.B) a0 i.h O I (.eA a (q.toList.map (aU i.g))) (.func (.func a) #[] c):=(by refine .eA (by grind) (λx av y R d2=>?_);obtain⟨F,ax,rfl⟩:=fz x y d2;rw[jn,ax] at R;cases R;exact T.aU F);have d4:=(T.put ad V);have S:=d4.put U (av:=.hA (.eA a (q.toList.map (aU i.g)))) (v:=.pointer (Y ⟨w.heap.size,0,bo⟩)) (.hA (.inr bn) ex bn V);rw[<-fp,<-fs] at S;exact⟨_,fl,⟨_,_,_,S⟩,d9.trans (d8.trans d7)⟩
end
end
section
inductive Fs where
 |none
 |x (l:ahb) (AN:ni)
 |vy (l:ahb) (AN:ni)
inductive Ft where
 |r
 |x (id:X) (AN:ni)
 |vy (id:X) (AN:ni)
inductive md where
 |leaf
 |one (a:md)
 |two (j:Fs) (a b:md)
 |loop (AN:ni) (m:Ft) (a:md)
 |keep (l:ahb) (a:md)
 |p4 (F:ahb) (a:md)
 |fp (id:X) (p:bm aZ) (a:md)
 |draw (L:bm lN)
 |yG
def DF:bm lN->X->ahb
 |[],_=>[]
 |r::b,a=>bif bI r.i a then r.iG else DF b a
def D8:bm lN->X->ahb
 |[],_=>[]
 |r::b,a=>bif bI r.i a then r.h5 else D8 b a
def Ls {A:Type} (id:X) (b:b4->aM->bv A):b4->aM->bv A
 |.exit c,a=>match bI c id with
  |true=>b .normal a
  |false=>b (.exit c) a
 |e,a=>b e a
def V8 {a:Type} (c:aM->bv a):b4->aM->bv a
 |.normal,b=>c b
 |_,_=>bo
def V9 {b A:Type} (d:aM->bv b) (c:b4->aM->bv A):b4->aM->bv (b⊕A)
 |.normal,a=>(d a).map .inl
 |e,a=>(c e a).map .inr
def AK {A:Type} (c:aM->bv A) (b:b4->aM->bv A):b4->aM->bv A
 |.normal,a=>c a
 |e,a=>b e a
def WT {b A:Type} (d:aM->bv b) (c:b4->aM->bv A):b4->aM->bv (b⊕A)
 |.normal,a=>(d a).map .inl
 |e,a=>(c e a).map .inr
def NQ {b c:Type} (e:aM->bv b) (id:X) (f:aM->bv c):b4->aM->bv (b⊕c)
 |.normal,a=>(e a).map .inl
 |.exit d,a=>match bI d id with
  |true=>(f a).map .inr
  |false=>bo
 |_,_=>bo
def NR {f g A:Type} (h:aM->bv f) (id:X) (i:aM->bv g) (c:b4->aM->bv A):b4->aM->bv (f⊕(g⊕A))
 |.normal,a=>(h a).map .inl
 |.exit d,a=>match bI d id with
  |true=>(i a).map λb=>.inr (.inl b)
  |false=>(c (.exit d) a).map λb=>.inr (.inr b)
 |e,a=>(c e a).map λb=>.inr (.inr b)
def hM:gU->md->cr->aM->(A:Type)->(b4->aM->bv A)->bv A
 |ic,.leaf,d,a,_,b=>match d with
  |.skip=>b .normal a
  |.exit id=>b (.exit id) a
  |.ret=>b .ret a
  |.region _ l bq=>kZ ic l (bH l.size) a (b .normal)
  |_=>bo
 |ic,.one e,d,a,A,b=>match d with
  |.block id j=>hM ic e j a A (Ls id b)
  |_=>bo
 |ic,.two w e q,d,a,A,b=>match d with
  |.seq j p=>match w with
   |.none=>hM ic e j a A (AK (λf=>hM ic q p f A b) b)
   |.x k c=>match sN a.g k with
    |some i=>(hM {ic with pin:=k++ic.pin,kg:=i++ic.kg} e j a c.den (V8 (proj c))).bind λm=>hM ic q p (uE {ic with pin:=k++ic.pin,kg:=i++ic.kg} c m) A b
    |none=>bo
   |.vy k c=>match sN a.g k with
    |some i=>(hM {ic with pin:=k++ic.pin,kg:=i++ic.kg} e j a (c.den⊕A) (V9 (proj c) b)).bind λ
     |.inl m=>hM ic q p (uE {ic with pin:=k++ic.pin,kg:=i++ic.kg} c m) A b
     |.inr i=>Y i
    |none=>bo
  |.cond t j p=>match aU a.g t with
   |.val .bool z=>match z with
    |true=>hM ic e j a A b
    |false=>hM ic q p a A b
   |_=>bo
  |_=>bo
 |ic,.loop c y e,d,a,A,b=>match d with
  |.loop j=>(proj c a).bind λu=>match y with
   |.r=>(loop (λf=>hM ic e j (uE ic c f) (c.den⊕A) (WT (proj c) b)) u).bind Y
   |.x id n=>(loop (λf=>hM ic e j (uE ic c f) (c.den⊕n.den) (NQ (proj c) id (proj n))) u).bind λm=>b (.exit id) (uE ic n m)
   |.vy id n=>(loop (λf=>hM ic e j (uE ic c f) (c.den⊕(n.den⊕A)) (NR (proj c) id (proj n) b)) u).bind λ
    |.inl m=>b (.exit id) (uE ic n m)
    |.inr i=>Y i
  |_=>bo
 |ic,.draw o,d,a,_,b=>match d with
  |.region _ l bp=>bif ua l (DF o) (D8 o) o then sM ic l (DF o) (D8 o) (k0 o) a (b .normal) else bo
  |_=>bo
 |ic,.yG,d,a,_,b=>match d with
  |.region _ l bq=>match F3 ic l a with
   |some f=>b .normal f
   |none=>bo
  |_=>bo
 |ic,.p4 v e,d,a,A,b=>bif nw a.h v then hM ic e d (sJ v a) A b else bo
 |ic,.fp id s e,d,a,A,b=>match aq a.h id,s with
  |some t,f::s=>if h:oe (f::s) t.1=bp then hM ic e d (HF id (f::s) t h a) A b else bo
  |_,_=>bo
 |ic,.keep k e,d,a,A,b=>match sN a.g k with
  |some i=>hM {ic with pin:=k++ic.pin,kg:=i++ic.kg} e d a A b
  |none=>bo
section
variable {E:fy} {C:eZ} {ic:gU} {A:Type}
theorem J.post (s:px C T) {e:cr} (k:J E C e i (λf c=>z f c\/∃(d a:aM),z f d/\d=⟨T++a.g,a.h⟩/\oZ a.g c/\o0 a.h c/\my a.g a.h=bp)):J E C e i z:=
 λj t q r=>wp_mono (k j t q r) (λ_ _ _ ⟨c,b,o,p⟩=>by
  rcases b with b|⟨d,a,b,rfl,l,m,n⟩
  ·grind
  exact⟨_,b,(o.yL l m n).kg s,p⟩)
theorem l3:∀{am:md} {C:eZ} {ic:gU} {m:cr} {j:aM} {A:Type} {k:b4->aM->bv A} {r:A} {l:b4->aM->Prop},ic.ae E C->hM ic am m j A k=Y r->(∀e i,k e i=Y r->l e i)->J E C m j l
 |.leaf,C,ic,m,j,A,k,r,l,b,a,d=>by
  simp only[hM] at a;split at a
  ·grind [J.skip]
  ·grind [J.exit]
  ·grind [J.ret]
  ·grind [J.region,VT]
  grind
 |.one q,C,ic,m,j,A,k,r,l,b,a,d=>by
  simp only[hM] at a;split at a
  ·refine J.block (l3 b a ?_);intro e i c;cases e with
   |exit M=>
    grind [F1,Ls]
   |_=>exact d _ _ c
  grind
 |.two M q cv,C,ic,m,j,A,k,r,l,b,a,d=>by
  simp only[hM] at a;split at a
  ·rename_i x cs;refine J.seq ?_;split at a
   ·refine l3 b a ?_;intro e i c;cases e with
    |normal=>exact l3 b c d
    |_=>exact d _ _ c
   ·rename_i D F;split at a
    case h_2=>cases a
    rename_i Q L;obtain⟨n,B,a⟩:=eO.1 a;refine J.keep b.2.2.2.2 L (λS s t o u v=>J.post o (l3 (ic:={ic with pin:=D++ic.pin,kg:=Q++ic.kg}) ⟨b.1,b.2.1.trans s.symm,by rw[t,<-b.2.2.1],⟨b.2.2.2.1.1,u _ b.2.2.2.1.2.1,b.2.2.2.1.2.2.1,v b.2.2.2.1.2.2.2.1,b.2.2.2.1.2.2.2.2⟩,o⟩ B ?_));intro e i c;cases e with
    |normal=>exact .inr ⟨_,_,l3 b a d,bn,ta c⟩
    |_=>cases c
   rename_i D F;split at a
   case h_2=>cases a
   rename_i Q L;obtain⟨n,B,a⟩:=eO.1 a;refine J.keep b.2.2.2.2 L (λS s t o u v=>J.post o (l3 (ic:={ic with pin:=D++ic.pin,kg:=Q++ic.kg}) ⟨b.1,b.2.1.trans s.symm,by rw[t,<-b.2.2.1],⟨b.2.2.2.1.1,u _ b.2.2.2.1.2.1,b.2.2.2.1.2.2.1,v b.2.2.2.1.2.2.2.1,b.2.2.2.1.2.2.2.2⟩,o⟩ B ?_));intro e i c;cases e with
   |normal=>
    obtain⟨bx,g,f⟩:=fB.1 c;cases f;exact .inr ⟨_,_,l3 b a d,bn,ta g⟩
   |_=>
    obtain⟨bx,g,f⟩:=fB.1 c;cases f;cases a;exact .inl (d _ _ g)
  ·rename_i ci x cs;split at a
   ·rename_i c2 a3;refine J.cond a3 (λe=>?_) (λe=>?_)
    ·subst e;exact l3 b a d
    subst e;exact l3 b a d
   grind
  grind
 |.loop F a4 q,C,ic,m,j,A,k,r,l,b,a,d=>by
  simp only[hM] at a;split at a
  case h_2=>cases a
  rename_i x;obtain⟨c1,ap,a⟩:=eO.1 a;obtain⟨N,O,P⟩:=ta ap;refine J.post b.2.2.2.2 ?_;cases a4 with
  |r=>
   refine J.loop (kX F) a N O P ?_;intro i T y z;refine J.kg b.2.2.2.2 (l3 b y ?_);intro e U c;cases e with
   |normal=>
    obtain⟨n,g,f⟩:=fB.1 c;grind [ta]
   |_=>
    obtain⟨n,g,f⟩:=fB.1 c;cases f;cases z;exact⟨(λa=>by cases a),.inl (d _ _ g)⟩
  |x id co=>
   refine J.loop (kX F) a N O P ?_;intro i T y z;refine J.kg b.2.2.2.2 (l3 b y ?_);intro e U c;cases e with
   |normal=>
    obtain⟨n,g,f⟩:=fB.1 c;grind [ta]
   |exit M=>
    simp only[NQ] at c;split at c
    ·rename_i K;obtain rfl:=fu K;obtain⟨n,g,f⟩:=fB.1 c;cases f;exact⟨(λa=>by cases a),.inr ⟨_,_,d _ _ z,bn,ta g⟩⟩
    grind
   |_=>cases c
  |vy id co=>
   refine J.loop (kX F) a N O P ?_;intro i T y z;refine J.kg b.2.2.2.2 (l3 b y ?_);intro e U c;cases e with
   |normal=>
    obtain⟨n,g,f⟩:=fB.1 c;grind [ta]
   |exit M=>
    simp only[NR] at c;split at c
    ·rename_i K;obtain rfl:=fu K;obtain⟨n,g,f⟩:=fB.1 c;cases f;exact⟨(λa=>by cases a),.inr ⟨_,_,d _ _ z,bn,ta g⟩⟩
    grind [alO]
   |_=>
    obtain⟨n,g,f⟩:=fB.1 c;grind
 |.draw G,C,ic,m,j,A,k,r,l,b,a,d=>by
  simp only[hM] at a;split at a
  case h_2=>cases a
  rename_i id bl;cases w:ua bl (DF G) (D8 G) G with
  |false=>grind
  |true=>
  rw[w] at a;exact J.draw E.mix b w a (λi c=>d _ i c)
 |.yG,C,ic,m,j,A,k,r,l,b,a,d=>by simp only[hM] at a;grind [J.yG]
 |.p4 V q,C,ic,m,j,A,k,r,l,b,a,d=>by
  simp only[hM] at a;cases w:nw j.h V with
  |false=>grind
  |true=>
  rw[w] at a;intro H R p I;obtain⟨ad,ce,an,p⟩:=p;exact l3 b a d H R (p.freeze (nw.ok w)) I
 |.fp id bs q,C,ic,m,j,A,k,r,l,b,a,d=>by
  simp only[hM] at a;split at a
  case h_2=>cases a
  rename_i ci i bs a0;split at a
  case isFalse=>cases a
  rename_i av;intro H R p I;obtain⟨ad,ce,an,p⟩:=p;exact l3 b a d H R (p.Vk ac a0 av) I
 |.keep D q,C,ic,m,j,A,k,r,l,b,a,d=>by
  simp only[hM] at a;split at a
  case h_2=>cases a
  rename_i n B;refine J.keep b.2.2.2.2 B ?_;intro S s t o u v;exact l3 (ic:={ic with pin:=D++ic.pin,kg:=n++ic.kg}) ⟨b.1,b.2.1.trans s.symm,by rw[t,<-b.2.2.1],⟨b.2.2.2.1.1,u _ b.2.2.2.1.2.1,b.2.2.2.1.2.2.1,v b.2.2.2.1.2.2.2.1,b.2.2.2.1.2.2.2.2⟩,o⟩ a d
end
end
end Go.jm
end
