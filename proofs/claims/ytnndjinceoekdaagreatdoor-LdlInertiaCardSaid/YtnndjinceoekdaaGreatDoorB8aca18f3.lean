/-
  Parts of the proof: Fw38, Fw22, Fw23, Fw26, Fw27, Fw28, Fw34, Fw35, Fw37, Fw42, Fw45, Fw24, Fw29, Fw31, Fw32, Fw33, Fw48, Fw39, Fw49, Fw30: the framework (Fw), pure forms (Dn), plain laws (Pl, Th), calls of functions (Ok).
-/
import Derived.Laws.StructEq
import Derived.Test.YtnndjinceoekdaaGreatDoorB2072c47a

set_option linter.all false
set_option maxHeartbeats 1000000
open _root_ renaming Nat->X,List->bm,Array->bT,Option->bv,rfl->bn,False->b4,and_true->ca,Unit->bt,Bool->bA,cond_true->bG,Int->Z,if_true->cj,cond_false->bP,dif_pos->alm,congrArg->b6,true_and->alz,of_decide_eq_true->amm,decide_eq_true->akb
open Go renaming TypeId->bF,Oper->bR,Operand->bM,Exit->b5,World->bC,Program->bY,execOp->bN,resolve->akM,ResultVar->aj9,undef->bV,Code->cq,IntKind->cr,Field->akr,sizeOf->akT,zeroValue->akl,typeInfo->akA,run_underlying->b7,newRow->akN,builtin->ak7,MapEntry->ch,asIntOf->ali,binOp->akf,eqGuard->ak6,getD_set_ne->anZ
open Bool renaming true->bq,false->bp,true_and->amk,and_true->am1,false_and->anN
open Option renaming some->Y,none->bo,isSome_none->anB,isSome_some->amQ,bind->bB,bind_eq_some_iff->alp,map_eq_some_iff->aoM
open Option.some renaming inj->akS,injEq->alo
open List renaming nodup_append->anI,mem_flatten->aly,mem_of_getElem?->al3,flatten_cons->aln,all_nil->anK,all_eq_true->alg,replicate->bI,any_eq_false->anM,map_congr_left->aks,map_id'->anO,length->cz,mem_singleton->akc,drop_drop->al5,range->bJ,length_append->akG,length_take->akv,length_drop->anS,map_toArray->amT,getElem?_take->amK,getElem_mem->b3,getElem?_eq_getElem->bX,getElem?_eq_some_iff->akU,getElem?_inj->amR,mem_append_left->anV,mem_append_right->amX,append_eq_nil_iff->anu,filter_eq_self->alB,filter->amn
open Go.jy.c8 renaming refl->cp,of_heap->anL
open Go.jy.a5 renaming here->alF,gz->akx
open Go.jy renaming kill->akm,run_getObj_map->alH
open Go.Sem renaming run_bind->bW,run_pure->ct
open Go.Result renaming andThen_ok->b1,ok->aoL
open Go.Oper renaming wp->ake,upon_value->aoO
open Pure renaming pure->alj
open Array renaming mapM_eq_mapM_toList->anx,replicate->anJ,getD_eq_getD_getElem?->anH,map->amO,mem_append_right->akO
open Go.Value.slice renaming injEq->aka
open Nat renaming sub_zero->amZ,beq->bH,eq_of_beq_eq_true->akR,blt->b9,ble->b2,mul_one->alG,beq_refl->ame,lor->anX,testBit_or->aoN,testBit_two_pow->anY
open List.Perm renaming append_left->am0
open Go.jy.ak renaming ids->bS,oJ->ak8,fx->akh
open BitVec renaming ofInt->cf
open Int renaming toNat_of_nonneg->aoJ
open Go.World renaming cell?->alk,frozen?_setCells->anG,cell?_setCells_in->ami,cell?_setCells_out->amW
open Go.jy.bb renaming size->anP
open Go.jy.ah renaming size->aku
open Go.jy.e6 renaming eval->akW
open Go.jy.hz renaming alloc->akX
open Go.Instr renaming box->amN,mapEntry->anT,mapUpdate->akV,keyThatStays->alD,sameBits->anC,entryStore->aoK,sureAddr->alA
open Go.jy.fy renaming alloc->anQ
open Go.jy.iW renaming alloc->anR
open Go.jy.aU renaming pure->ak9
open Go.Value renaming map->alE,int->akg,nilFunc->alq
open Go.MapEntry renaming mk->amJ
open Go.Result.ok renaming injEq->anU
open Go.Op renaming equalIn->alh,equal->al6,maxDepth->al7,eqFields->am2,operands->bU
open Go.jy.Yields renaming wp->aml
open Go.Addr renaming add_lit->ak5
open Go.Addr.mk renaming injEq->akq
open Go.jy.iw renaming op->alI
open Go.Call renaming operands->akH
open Go.Region renaming binds->anW,ready->an0,wanted->amY
noncomputable section
namespace Go.jy
variable{a m:X}{b:Type}{c r:bF}{d t:ak}{e:bm (X×aG)}{f w:aj5}{g:bm (X×bm a6)}{h:bR}{i:aQ}{j:bm a6}{k Q:ah}{l:bm (X×ah)}{n z:bM}{o:b5->Act->bC->Prop}{p:bY}{s:bT (X×bM)}{u:aQ->Prop}{v:bC}{x:X->aj5}{y:b5->aQ->Prop}{N:X->Prop}{O:X->ey}{P:aG}{R:Value}{S:bm (X×ak)}{T:eE->X->Prop}{U:bM->ak}{V:ey}
section
def uf:bm ak->aj2->bv (X×bm a6)
 |.ref id (c::b)::_,bq::_=>Y (id,c::b)
 |_::as,_::a=>uf as a
 |_,_=>bo
def qY (id:X) (a:ak):ak:=bif a.fx [id] then .dead else a
def mY (id:X):bm ak->aj2->bm ak
 |.ref _ (_::_)::as,bq::_=>.ref id []::as.map (qY id)
 |a::as,_::b=>qY id a::mY id as b
 |as,_=>as.map (qY id)
def kW {a:Type} (c:X->a) (d:X) (e:a):X->a:=λb=>if b=d then e else c b
theorem n6 {d:X->b} {c:b}:kW d a c a=c:=by simp[kW]
theorem lp {c:X->b} {e:b} (d:a≠m):kW c m e a=c a:=by simp[kW,d]
section
variable {E:fF} {C:e4} {st:aQ} {A:ev} {w w':bC} {I I':X->Prop} {rt:X->ey} {fp:X->aj5}
theorem tE {id:X} (a:X):aq ((id,P)::del [id] e) a=if id=a then Y P else aq e a:=by
 rw[di];split
 ·rfl
 rename_i b;rw[nl,au (by grind)]
theorem cK.split (e:cK C st A w I rt fp) {id:X} (n:aq st.h id=Y P) {j:k.den} {z:aj5} (E:aU (be I C.B) w k V j f) (v:(fp id).Perm (f++z)):cK C ⟨[],(id,⟨k,j⟩)::del [id] st.h⟩ A w I (kW rt id V) (kW fp id f):=by
 obtain⟨_,F,G⟩:=e.tree id P n;have r:∀c∈f,c∈fp id:=λc d=>v.mem_iff.2 (by grind);have l:∀a b,aq ((id,(⟨k,j⟩:aG))::del [id] st.h) a=Y b->(a=id/\b=⟨k,j⟩)\/(a≠id/\aq st.h a=Y b):=λa b q=>(by grind [akS,tE]);refine{e with tree:=?_,dis:=?_,tmp:=λa=>.dead _}
 ·intro a b q;rcases l a b q with⟨rfl,rfl⟩|⟨g,i⟩
  ·grind [anI,n6]
  rw[lp g,lp g];exact e.tree a b i
 intro x y b D t u m c d;rcases l x b t with⟨rfl,rfl⟩|⟨g,i⟩<;>rcases l y D u with⟨rfl,rfl⟩|⟨o,p⟩
 ·omega
 ·rw[n6] at d;rw[lp o];exact e.dis _ _ _ _ n p m c (r c d)
 ·rw[lp g] at d;rw[n6];exactλs=>e.dis _ _ _ _ i n m c d (r c s)
 rw[lp g] at d;rw[lp o];exact e.dis _ _ _ _ i p m c d
def cP.qY (l:cK C st A w I rt fp) {id:X} {q:aG} {i:ey} {j:aj5} {a:ak} {f:Value} (k:cP (be I C.B) w st.h rt fp a f):cP (be I C.B) w ((id,q)::del [id] st.h) (kW rt id i) (kW fp id j) (qY id a) f:=by
 unfold jy.qY;cases o:a.fx [id] with
 |true=>exact .dead _
 |false=>
  refine k.tL (λr g n=>⟨n,cp _ _⟩) (λd m p e=>?_);have c:d≠id:=λb=>Lt o d m (by simp[b]);refine⟨?_,lp c,lp c,(l.tree d p e).1,λg _=>cp _ _⟩;rw[tE,au (λb=>c b.symm)];exact e
theorem U2 (p:cK C st A w I rt fp) {id:X} (F:aq st.h id=Y P) {y:k.den} {u:Loc} {f:aj5} {r:a6} (D:a5 w P.1 bo (rt id) (r::j) k u V):∀{d:bm ak} {c:aj2} {a:ey},iM (cP (be I C.B) w st.h rt fp) d a->uf d c=Y (id,r::j)->iM (cP (be I C.B) w ((id,⟨k,y⟩)::del [id] st.h) (kW rt id V) (kW fp id f)) (mY id d c) a:=by
 have G:∀{d:bm ak} {a:ey},iM (cP (be I C.B) w st.h rt fp) d a->iM (cP (be I C.B) w ((id,⟨k,y⟩)::del [id] st.h) (kW rt id V) (kW fp id f)) (d.map (jy.qY id)) a:=by
  intro d
  induction d with
  |nil=>intro a b;cases a with|nil=>trivial|cons=>exact b.elim
  |cons e n o=>intro a b;cases a with|nil=>exact b.elim|cons H a=>exact⟨b.1.qY p,o b.2⟩
 intro d
 induction d with
 |nil=>intro c a _ b;cases c<;>cases b
 |cons e n o=>
  intro c a b i;cases a with
  |nil=>exact b.elim
  |cons H a=>
  cases c with
  |nil=>cases e<;>first|(cases i;done)|(rename_i m g;cases g<;>cases i)
  |cons l c=>
   by_cases z:∃m s g,e=.ref m (s::g)/\l=bq
   ·obtain⟨m,s,g,rfl,rfl⟩:=z;simp only[uf,eZ,iy,h4] at i;obtain⟨rfl,rfl,rfl⟩:=i;have x:=b.1;cases x with|ref q E=>
    rw[F] at q;cases q;obtain⟨rfl,rfl,rfl⟩:=E.kN D;refine⟨.ref (t:=⟨_,y⟩) (loc:=bo) (by rw[tE,aw bn]) ?_,G b.2⟩;rw[n6];exact alF
   have ao:uf (e::n) (l::c)=uf n c:=by cases e<;>first|rfl|(rename_i m g;cases g<;>cases l<;>first|rfl|grind)
   have v:mY id (e::n) (l::c)=jy.qY id e::mY id n c:=by cases e<;>first|rfl|(rename_i m g;cases g<;>cases l<;>first|rfl|grind)
   rw[ao] at i;rw[v];exact⟨b.1.qY p,o b.2 i⟩
theorem nJ.ady (J:cK C st A w I rt fp) {id:X} (z:aq st.h id=Y P) {x:k.den} (em:eT P.1 P.2 j k x) {av:Loc} (co:a5 w P.1 bo (rt id) j k av V):∃p u,aU (be I C.B) w k V x p/\(fp id).Perm (p++u)/\∀{w':bC} {I':X->Prop} {s:aj5} {K:bm (X×bm a6)} {D:bm (X×aG)} {N:X->ey} {E:X->aj5} {O:k.den} {t:P.1.den},nJ C ⟨[],(id,⟨k,x⟩)::del [id] st.h⟩ w w' I I' (kW rt id V) (kW fp id p) s K D N E->id∈s->aq D id=Y ⟨k,O⟩->(id,[])∈K->(∀m∈K,m.2=[])->ff P.1 P.2 j k O t->∃ds d5,nJ C st w w' I I' rt fp s ((id,j)::K) ((id,⟨P.1,t⟩)::D) ds d5/\∀l,l≠id->ds l=N l:=by
 obtain⟨f1,dl,f2⟩:=J.tree id P z;obtain⟨hs,f8,p,u,d6,d7,d8,G,ge,d9,ek⟩:=AS j (loc:=bo) f1 (λ_ _ b=>by cases b) dl (λ_ _ b=>by cases b) (J.notM z) em;obtain⟨_,rfl,rfl⟩:=co.kN d6;refine⟨p,u,d7,G,λ{w' I' s K D N E O t} f bs U q ex cs=>?_⟩;have hc:∀a∈p,a∈fp id:=λa c=>G.mem_iff.2 (by grind);have gl:=jt.1 (G.nodup_iff.1 dl);have M:∀a,(∃d∈s,∃e,aq ((id,(⟨k,x⟩:aG))::del [id] st.h) d=Y e/\a∈kW fp id p d)->∃d∈s,∃e,aq st.h d=Y e/\a∈fp d/\(d=id->a∈p):=by
  rintro a ⟨d,o,e,g,c⟩;by_cases m:d=id
  ·grind [n6]
  rw[tE,au (λd4=>m d4.symm)] at g;grind [lp]
 have am:∀a∈u,a<w.heap.size/\¬∃d∈s,∃e,aq ((id,(⟨k,x⟩:aG))::del [id] st.h) d=Y e/\a∈kW fp id p d:=λa c=>by
  have L:a∈fp id:=G.mem_iff.2 (by grind);refine⟨(f2 a L).2.2.1,λb=>?_⟩;obtain⟨d,_,e,g,n,H⟩:=M a b;by_cases m:d=id
  ·grind
  exact J.dis d id e P g z m a n L
 have R:∀a∈u,w'.heap[a]?=w.heap[a]?:=λa c=>f.heap a (am a c).1 (λd o e g b=>(am a c).2 ⟨d,o,e,g,b⟩);have gf:∀F a,be I C.B F a->c8 w w' a:=λF a T=>.of_heap (f.heap a (J.ib a (nm T)) (λd o e g b=>by
  obtain⟨d,_,e,g,n,_⟩:=M a ⟨d,o,e,g,b⟩;exact J.notM g a n F T))
 obtain⟨_,an,hv,f0⟩:=f.tree id _ U;obtain⟨v,hi,_,cv,_⟩:=f.keep _ q ⟨k,x⟩ (by rw[tE,aw bn]);simp only[n6] at cv;rw[cv] at an;have d3:∀a,c8 w w' a->sn w w' av k.size a:=λa b=>⟨λr _=>(b.1 r).1,λr=>(b.1 r).2,λr=>by rw[(b.1 r).1],b.2⟩;obtain⟨f9,a3,ft,_,fT,_,c1,_,fz⟩:=d9 w' (be I' C.B) V O (E id) t (λF a c=>by cases F;exact f.i a c;exact c.imp (f.i a) (λb=>b)) (by
   rintro a (⟨F,T⟩|c|⟨c2,gs⟩)
   ·grind
   ·exact d3 a (.of_heap (R a c))
   grind) an (λ_ _=>rfl)
  (λa c2 fl=>by
   have c:a∈u:=(by grind);exact(d8 a c2 fl).1.sm (.of_heap (R a c))) cs
 obtain rfl:=fT bn (.inr bn);have Q:∀a∈a3,a∈E id\/a∈u:=λa c=>hn.1 (c1.mem_iff.1 c);have go:∀l e,aq D l=Y e->∀a∈E l,a∉u:=λl e q a c gt=>by
  rcases((f.tree l e q).2.2.2 a c).2.2 with b|b
  ·grind
  grind
 have ad:∀l v,aq ((id,(⟨P.1,t⟩:aG))::D) l=Y v->(l=id/\v=⟨P.1,t⟩)\/(l≠id/\aq D l=Y v):=λl v q=>(by rw[di] at q;grind);have ci:∀a,(w.heap.size<=a\/∃d∈s,∃e,aq ((id,(⟨k,x⟩:aG))::del [id] st.h) d=Y e/\a∈kW fp id p d)->w.heap.size<=a\/∃d∈s,∃e,aq st.h d=Y e/\a∈fp d:=λa b=>b.imp (λb=>b) (λb=>by
  obtain⟨d,o,e,g,n,_⟩:=M a b;grind)
 refine⟨kW N id (rt id),kW E id a3,⟨f.size,f.os,f.tape,f.output,?_,f.evo,f.i,?_,?_,?_,?_,?_⟩,λl q=>lp q⟩
 ·intro a c gi;refine f.heap a c (λd o e g b=>?_);obtain⟨d,o,e,g,n,_⟩:=M a ⟨d,o,e,g,b⟩;grind
 ·intro a c;exact(f.i2 a c).imp (λb=>b) (λb=>⟨b.1,ci a b.2⟩)
 ·intro l v q;rcases ad l v q with⟨rfl,rfl⟩|⟨n,H⟩
  ·rw[n6,n6];refine⟨.inl bs,ft,?_,λa c=>?_⟩
   ·grind
   rcases Q a c with c|c
   ·obtain⟨d0,d1,d2⟩:=f0 a c;grind
   have L:a∈fp l:=G.mem_iff.2 (by grind);refine⟨λo=>?_,jh (am a c).1 f.size,.inr ⟨l,bs,P,z,L⟩⟩;rcases f.i2 a o with b|⟨_,b|b⟩
   ·grind
   ·grind
   grind
  rw[lp n,lp n];obtain⟨f3,d0,d1,d2⟩:=f.tree l v H;refine⟨f3.imp (λb=>b) (λb=>?_),d0,d1,λa c=>?_⟩
  ·have b:aq ((id,(⟨k,x⟩:aG))::del [id] st.h) l=bo:=b;rw[tE,au (λm=>n m.symm)] at b;exact b
  obtain⟨v1,fe,ap⟩:=d2 a c;exact⟨v1,fe,ci a ap⟩
 ·intro d r f4 f5 o eq S a c;rcases ad d f4 o with⟨rfl,rfl⟩|⟨n,H⟩<;>rcases ad r f5 eq with⟨rfl,rfl⟩|⟨a4,bl⟩
  ·omega
  ·rw[n6] at c;rw[lp a4];rcases Q a c with c|c
   ·exact f.dis d r _ _ U bl S a c
   grind
  ·rw[lp n] at c;rw[n6];intro b;rcases Q a b with b|b
   ·exact f.dis d r _ _ H U S a c b
   grind
  rw[lp n] at c;rw[lp a4];exact f.dis d r _ _ H bl S a c
 ·intro m y e g;rcases fC.1 y with rfl|y
  ·rw[z] at g;cases g;exact⟨⟨P.1,t⟩,by rw[di,aw bn],bn,n6,⟨_,co.ty⟩,fz⟩
  by_cases ao:m.1=id
  ·rw[ao,z] at g;cases g;refine⟨⟨P.1,t⟩,by rw[di,aw ao.symm],bn,by grind [n6],⟨P.1,by rw[ex m y];cases P.1<;>rfl⟩,λdg _ _ _ q=>?_⟩;grind [Ff]
  obtain⟨v1,fe,ap,v4,f6,Lv⟩:=f.keep m y e (by rw[tE,au (λb=>ao b.symm)];omega);rw[lp ao] at v4 Lv;exact⟨v1,by rw[di,au (λb=>ao b.symm)];exact fe,ap,by grind [lp],f6,Lv⟩
 intro m y e g dg ic hw hr f7 gc bx fr fn ce fs;rcases fC.1 y with rfl|y
 ·rw[z] at g;cases g;refine⟨⟨P.1,t⟩,by rw[di,aw bn],vr bx cs ce,λa0 el=>?_⟩;obtain⟨ay,an⟩:=ek dg _ _ _ _ _ bx (by exact fr) ce fn fs a0 el;rw[n6];exact⟨c1.mem_iff.2 (k1 _ ay),.of_heap (R a0 ay)⟩
 grind [vq]
theorem e6.sub {v:bR} {t:bm ak} {i S:bT _} (dg:v.op=.call {callee:=.value n,args:=i,argTypes:=S}) (d7:aV st.g n=.eA m t) (ce:v.dst=Y a) (ci:C.ok a) (fr:∀(R:ev) (w:bC),(callFunc m R).run E.P w=.ok (.enter m R) w) {b:bm hL} {e:bm aG} (bs:sk E m b e) (d2:pK 0 b=bo) (am:∀F,C.I0 F\/C.B F->F<C.w0.heap.size/\¬C.F0 F) (an:lv E C.I0 C.w0) {id:X} {j:aG} (s:aq st.h id=Y j) {A:a6} {p:bm a6} {D:k.den} (O:eT j.1 j.2 (A::p) k D) {J:aj2} (d3:uf (i.toList.map (aV st.g)++t) J=Y (id,A::p)) {c:bm ak} (a4:c=mY id (i.toList.map (aV st.g)++t) J) (a3:o2 ((id,⟨k,D⟩)::del [id] st.h) (gw c b) c b) (G:nO a ⟨[],(id,⟨k,D⟩)::del [id] st.h⟩ c b e=bq) (a0:id∈gw c b) (ap:id∈mP c b) {y':k.den} {z:j.1.den} (cs:aq (kh c b++jo a (jl e) 0 e) id=Y ⟨k,y'⟩) (d1:ff j.1 j.2 (A::p) k y' z) (r:u ⟨(a,wj a e)::akm (gw c b) ((id,A::p)::x6 (mP c b)) st.g,((id,⟨j.1,z⟩)::(kh c b++jo a (jl e) 0 e))++del (gw c b) st.h⟩):e6 E C v st u:=by
 rintro d w ⟨I,rt,fp,l⟩ next em c2
 obtain⟨o,d6,ad⟩:∃o:ev,d.eval n=.func (.func m) #[] o/\iM (cP (be I C.B) w st.h rt fp) t o.toList:=by
  have H:=l.aV n;rw[d7] at H;generalize fT:d.eval n=f5 at H;cases H with|eA ft fs=>
  grind [zt]
 have bl:iM (cP (be I C.B) w st.h rt fp) (i.toList.map (aV st.g)++t) (i.toList.map d.eval++o.toList):=Hi (Hj (λn=>l.aV n) _) ad;obtain⟨d9,ek,f1⟩:=l.tree id j s;obtain⟨el,eq,_,_,K,_⟩:=EV (A::p) (loc:=bo) d9 (λ_ _ r=>by cases r) ek (λ_ _ r=>by cases r) (l.notM s) O;obtain⟨U,f2,ay,d8,dl⟩:=nJ.ady l s O K;have M:=l.split s ay d8;have N:=U2 (y:=D) (f:=U) l s K bl d3;rw[<-a4] at N;have bx:=M.call N bs a3 G (λ_ _=>by rw[d2];trivial) (M.glob am an);have d0:(bN d.eval v).run E.P w=.ok (.enter m (i.toList.map d.eval++o.toList).toArray) w:=(by have ao:i.map d.eval=(i.toList.map d.eval).toArray:=(by rw[<-Array.toList_map]);have T:(i.toList.map d.eval++o.toList).toArray=(i.toList.map d.eval).toArray++o:=ac;rw[T];simp only[bN,dg,akM,ao,bW,d6,Deferred.ofValue,ct,b1,invoke,Array.empty_append,Array.append_empty];grind);unfold ake;rw[d0];show Calls E.P m _ w _;refine bx.mono ?_;rintro q w' ⟨I',f3,ex,cX,rfl,d4,ds⟩;show next (d.put v.dst (qR cX)) w'
 rw[ce];obtain⟨f4,fl,d5,fz⟩:=dl d4 a0 cs (eQ.2 ⟨id,ap,bn⟩) (λq co=>by obtain⟨f0,_,rfl⟩:=eQ.1 co;rfl) d1;simp only[nO,bk,g0] at G;have cv:=jJ.ok G.1.2;refine c2 _ _ _ r bn ⟨I',_,_,(l.eB d5).put ci (av:=wj a e) (ds _ _ _ (λx Q=>?_))⟩;have V:=RZ cv x Q;have L:=G.2 x Q;have c1:x.1≠id:=λq=>(by rw[q,tE,aw bn] at L;cases L);have fn:aq ((id,(⟨j.1,z⟩:aG))::(kh c b++jo a (jl e) 0 e)) x.1=Y x.2:=(by rw[di,au (λq=>c1 q.symm)];exact V);grind [kR,fk]
end
end
section
def jW:X->bm hL->bm (X×ak)
 |_,[]=>[]
 |k,.v b::a=>(k,.val b.1 b.2)::jW (k+1) a
 |k,.m _ _::a=>(k,.ref k [])::jW (k+1) a
 |k,.o _::a=>(k,.ref k [])::jW (k+1) a
 |k,.n::a=>(k,.dh (.slice bo 0 0))::jW (k+1) a
 |k,.w _ _ e d _::a=>(k,.view k [] e d)::jW (k+1) a
 |k,.s _ _::a=>jW (k+1) a
 |k,.c f g::a=>(k,.eA f (g.map λb=>.val b.1 b.2))::jW (k+1) a
def kp:X->bm hL->bm (X×aG)
 |_,[]=>[]
 |k,.v _::a=>kp (k+1) a
 |k,.m b _::a=>(k,b)::kp (k+1) a
 |k,.o b::a=>(k,b)::kp (k+1) a
 |k,.w e d _ _ _::a=>(k,⟨.osl e,d⟩)::kp (k+1) a
 |k,.c _ _::a=>kp (k+1) a
 |k,.n::a=>kp (k+1) a
 |k,.s _ _::a=>kp (k+1) a
def hV:X->bm hL->aj5
 |_,[]=>[]
 |k,.m _ _::a=>k::hV (k+1) a
 |k,.w _ _ _ _ _::a=>k::hV (k+1) a
 |k,_::a=>hV (k+1) a
def uJ (a:e4):bv dY->Prop
 |none=>True
 |some (c,g,d)=>c∈a.pin/\(∀h∈d,h∈a.pin)/\∃b e f,a.vs c=.pointer (Y ⟨b,e,bo⟩)/\b<a.w0.heap.size/\¬a.F0 b/\a.w0.cell? ⟨b,e,bo⟩=Y (.func (.func g) #[] f)/\f.toList=d.map a.vs
def n5:bv dY->aj5
 |none=>[]
 |some (a,_,b)=>a::b
def sL (j:bY) (e:aQ) (a:aG):aj9->aj5->Prop
 |.tmp m,c=>match gt e.g m with
  |.val i n=>(⟨i,n⟩:aG)=a/\c=[]
  |.dh f=>i9 a.1 f.cells.toList=Y a.2/\c0 a.1 f.cells.toList=f/\c=[]
  |.ref id d=>c=[id]/\∃b,aq e.h id=Y b/\eT b.1 b.2 d a.1 a.2
  |_=>b4
 |.cell l k,c=>fo j a.1 k/\match gt e.g l with
  |.ref id d=>c=[id]/\∃b i,aq e.h id=Y b/\fw b.1 d=Y (.optr i)/\eT b.1 b.2 (d++[.deref]) a.1 a.2
  |_=>b4
def uI (b:bY) (d:aQ):bm aj9->bm aG->aj5->Prop
 |[],[],a=>a=[]
 |r::f,e::g,a=>e.1.ga=bq/\∃i1 c,a=i1++c/\sL b d e r i1/\uI b d f g c
 |_,_,_=>b4
def p9 (a:aQ):X->bm hL->Prop
 |_,[]=>True
 |k,.m c l::b=>(gt a.g k=.ref k []/\aq a.h k=Y ⟨c.1,l⟩/\c.1.ga=bq/\sg c.1=bq)/\p9 a (k+1) b
 |k,.w i j e d f::b=>(gt a.g k=.view k [] e d/\aq a.h k=Y ⟨.osl i,f⟩/\(i.ga=bq/\e<d)/\f.length=j.length)/\p9 a (k+1) b
 |k,_::b=>p9 a (k+1) b
def LP (e:bY) (a:bm hL) (g:bm aj9) (f:bm aG) (b:b5) (d:aQ):Prop:=
 (b=.normal\/b=.ret)/\∃c,uI e d g f c/\jJ (hV 0 a++c)=bq/\p9 d 0 a
section
variable {E:fF}
theorem VW {h:X->Prop} {b:bm aG} (g:iM (y5 h N v) b V):cP (be h N) v e O x (.eA a (b.map λc=>.val c.1 c.2)) (.func (.func a) #[] V.toArray):=by
 have q:=Ml g;refine .eA (by grind) (λf o j d i=>?_);have k:∀{b:bm aG} {V:ey} {f:X} {c:aG} {j:Value},iM (y5 h N v) b V->b[f]?=Y c->V[f]?=Y j->y5 h N v c j:=by
  intro b
  induction b with
  |nil=>grind
  |cons s b n=>
   intro V f c j g d i;cases V with
   |nil=>grind
   |cons r V=>
    cases f with
    |zero=>simp only[ri,eZ] at d i;subst d i;exact g.1
    |succ f=>exact n g.2 (by simpa using d) (by grind)
 rw[jQ] at d;obtain⟨c,m,rfl⟩:=fG.1 d;obtain⟨p,rfl,l⟩:=k g m (by simpa using i);exact .val l
theorem Mz {q p:X->Prop} {w:bC}:∀{k:X} {d:bm hL} {D:ey} {x:es},mG (y2 q p w) d D x->∃(h:X->ey) (e:X->aj5),(∀id b,aq (kp k d) id=Y b->k<=id/\(∃u,x[id-k]?=Y u/\e id=u)/\aU (be q p) w b.1 (h id) b.2 (e id))/\(∀a,gt (jW k d) (k+a)=.dead\/∃v,D[a]?=Y v/\cP (be q p) w (kp k d) h e (gt (jW k d) (k+a)) v)/\(∀a,a<k->gt (jW k d) a=.dead)
 |k,[],D,x,t=>⟨λ_=>[],λ_=>[],(λid b t=>by cases t),λa=>.inl bn,λa _=>rfl⟩
 |k,j::d,[],x,t=>t.elim
 |k,j::d,v::D,[],t=>t.elim
 |k,j::d,v::D,u::x,t=>by
  obtain⟨A,T⟩:=t;obtain⟨h,e,i1,H,Q⟩:=Mz (k:=k+1) T;have I:∀id b,aq (kp (k+1) d) id=Y b->k<=id/\(∃E,(u::x)[id-k]?=Y E/\e id=E)/\aU (be q p) w b.1 (h id) b.2 (e id):=λid b P=>(by grind);have M:∀(b:aG) (r:ey) (J:ak),(∀(z:bm (X×aG)) (C:X->ey) (F:X->aj5),aq z k=Y b->C k=r->cP (be q p) w z C F J v)->aU (be q p) w b.1 r b.2 u->kp k (j::d)=(k,b)::kp (k+1) d->jW k (j::d)=(k,J)::jW (k+1) d->_:=λb r J f l ao O=>by
   refine(⟨λG=>if G=k then r else h G,λG=>if G=k then u else e G,?_,?_,?_⟩:∃(h:X->ey) (e:X->aj5),(∀id b,aq (kp k (j::d)) id=Y b->k<=id/\(∃E,(u::x)[id-k]?=Y E/\e id=E)/\aU (be q p) w b.1 (h id) b.2 (e id))/\(∀a,gt (jW k (j::d)) (k+a)=.dead\/∃i,(v::D)[a]?=Y i/\cP (be q p) w (kp k (j::d)) h e (gt (jW k (j::d)) (k+a)) i)/\(∀a,a<k->gt (jW k (j::d)) a=.dead))
   ·grind [di]
   ·intro a;rw[O,jk];cases a with
    |zero=>
     right;refine⟨v,bn,?_⟩;rw[aw aa];exact f _ _ _ (by rw[ao,di,aw bn]) (by grind)
    |succ a=>
     rw[au aa,(aa:k+(a+1)=k+1+a)];refine(H a).imp id ?_;rintro⟨i,ay,g⟩;refine⟨i,by grind,?_⟩;refine g.tL (λm K U=>⟨U,cp w K⟩) (λid _ am P=>?_);obtain⟨bl,_,bs⟩:=i1 id am P;have an:¬id=k:=aa;have ap:¬k=id:=aa;simp_all [di,au,cp]
   intro a y;rw[O,jk,au aa];grind
  cases j with
  |v b=>
   obtain⟨rfl,r,f,l⟩:=A;refine⟨h,e,I,λa=>?_,λa y=>?_⟩
   ·show gt ((k,_)::_) _=_\/_;rw[jk];cases a with
    |zero=>
     right;refine⟨v,bn,?_⟩;show cP _ _ _ _ _ (gt ((k,_)::_) _) _;rw[jk,aw aa,f];exact .val l
    |succ a=>
     rw[au aa,(aa:k+(a+1)=k+1+a)];refine(H a).imp id ?_;rintro⟨i,ay,g⟩;refine⟨i,by grind,?_⟩;show cP _ _ _ _ _ (gt ((k,_)::_) _) _;rw[jk,au aa];exact g
   show gt ((k,_)::_) _=_;rw[jk,au aa];grind
  |n=>
   obtain⟨rfl,f⟩:=A;refine⟨h,e,I,λa=>?_,λa y=>?_⟩
   ·show gt ((k,_)::_) _=_\/_;rw[jk];cases a with
    |zero=>
     right;refine⟨v,bn,?_⟩;show cP _ _ _ _ _ (gt ((k,_)::_) _) _;rw[jk,aw aa,f];exact .dh _
    |succ a=>
     rw[au aa,(aa:k+(a+1)=k+1+a)];refine(H a).imp id ?_;rintro⟨i,ay,g⟩;refine⟨i,by grind,?_⟩;show cP _ _ _ _ _ (gt ((k,_)::_) _) _;rw[jk,au aa];exact g
   show gt ((k,_)::_) _=_;rw[jk,au aa];grind
  |s av a3=>
   refine⟨h,e,I,λa=>?_,λa y=>Q a aa⟩;cases a with
   |zero=>exact .inl (Q k aa)
   |succ a=>
    have y:=H a;rw[(aa:k+1+a=k+(a+1))] at y;refine y.imp id ?_;rintro⟨i,ay,g⟩;exact⟨i,by grind,g⟩
  |c n bx=>
   obtain⟨rfl,ce,f,l⟩:=A;refine⟨h,e,I,λa=>?_,λa y=>?_⟩
   ·show gt ((k,_)::_) _=_\/_;rw[jk];cases a with
    |zero=>
     right;refine⟨v,bn,?_⟩;show cP _ _ _ _ _ (gt ((k,_)::_) _) _;rw[jk,aw aa,f];exact VW l
    |succ a=>
     rw[au aa,(aa:k+(a+1)=k+1+a)];refine(H a).imp id ?_;rintro⟨i,ay,g⟩;refine⟨i,by grind,?_⟩;show cP _ _ _ _ _ (gt ((k,_)::_) _) _;rw[jk,au aa];exact g
   show gt ((k,_)::_) _=_;rw[jk,au aa];grind
  |m b ci=>obtain⟨r,f,l⟩:=A;exact M b r (.ref k []) (λz C F ay g=>by subst f;exact .ref (loc:=bo) ay (by grind [alF])) l bn rfl
  |o b=>obtain⟨r,f,l⟩:=A;exact M b r (.ref k []) (λz C F ay g=>by subst f;exact .ref (loc:=bo) ay (by grind [alF])) l bn rfl
  |w S R B L co=>
   obtain⟨K,o,N,f,⟨a4,V,ad⟩,l⟩:=A;refine M ⟨.osl S,R⟩ _ (.view k [] B L) (λz C F ay g=>?_) l bn rfl;have a0:cP (be q p) w z C F (.view k [] B L) (.slice (Y ⟨K,if N=B then o else o+B*S.size,bo⟩) (L-B) (N-B)):=.view (loc:=bo) (len:=R.length) ay (by grind [alF]) aa V ad;grind
theorem Z0 {a:es} (g:a.flatten.Nodup):(∀(c:X) b,a[c]?=Y b->b.Nodup)/\∀(c e:X) b d,a[c]?=Y b->a[e]?=Y d->c≠e->∀f∈b,f∉d:=by
 induction a with
 |nil=>grind
 |cons i a h=>
  simp only[l0,jt] at g;grind [List.getElem?_cons_zero,alo,aly,al3]
def BD (b:ev):aj9->Sem Value
 |.tmp a=>alj (b.getD a bV)
 |.cell c a=>do loadVar a (<-asAddr (b.getD c bV))
def aeX {f:Func} {e:bm aj9} (h:f.results=e.toArray) (c:ev) (a:bC) (i:(e.mapM (BD c)).run p a=.ok V a):(results f c).run p a=.ok (qR V) a:=by
 unfold results;simp only[bW,h];rw[anx,Sem.run_map];have j:∀b:aj9->Sem Value,(∀d,b d=BD c d)->(e.mapM b).run p a=.ok V a:=λb g=>(by rw[show b=BD c from funext g];exact i);rw[j _ (λd=>by cases d<;>rfl)];simp only[b1,ct];congr 1
 match V with
 |[]=>rfl
 |[r]=>rfl
 |r::l::k=>simp[qR]
theorem sL.rep {G:e4} {d:ev} (q:cK G i d v N O x) (C:P.1.ga=bq) {c:aj9} (a:sL p i P c f):∃o H,(BD d c).run p v=.ok o v/\Cn N v P o H/\(∃ap,(f.map x).flatten.Perm (H++ap))/\∀id∈f,∃P,aq i.h id=Y P:=by
 have J:∀(id:X) (g:aG) (l:bm a6),aq i.h id=Y g->eT g.1 g.2 l P.1 P.2->∃u m k n,a5 v g.1 bo (O id) l P.1 u m/\aU (be N G.B) v P.1 m P.2 k/\p8 v u m P.1.size/\(x id).Perm (k++n):=(by intro id g l e r;obtain⟨ay,F,bl⟩:=q.tree id _ e;obtain⟨u,m,k,n,w,z,E,I,_⟩:=EV l (τ':=P.1) (y:=P.2) ay (loc:=bo) (λ_ _ a=>by cases a) F (λ_ _ a=>by cases a) (q.notM e) r;grind);cases c with
 |tmp c=>
  have b:=q.tmp c;simp only[sL] at a;split at a
  ·rename_i a0 bx j;rw[j] at b;obtain⟨rfl,rfl⟩:=a;generalize D:d.getD c bV=o at b;cases b with|val av=>
   exact⟨_,[],by show(alj (d.getD c bV):Sem Value).run p v=_;simp_all,⟨_,bn,av.ga C⟩,⟨[],ac⟩,ac⟩
  ·rename_i o j;rw[j] at b;obtain⟨ay,F,rfl⟩:=a;generalize D:d.getD c bV=bs at b;cases b;exact⟨_,[],by show(alj (d.getD c bV):Sem Value).run p v=_;simp_all,⟨_,F.symm,qp ay⟩,⟨[],ac⟩,ac⟩
  ·rename_i id l j;rw[j] at b;obtain⟨rfl,g,e,r⟩:=a;generalize D:d.getD c bV=o at b;cases b with|ref t s=>
   rw[e] at t;cases t;obtain⟨u,m,k,n,w,z,E,I⟩:=J id g l e r;obtain⟨rfl,rfl,rfl⟩:=s.kN w;refine⟨_,k,by show(alj (d.getD c bV):Sem Value).run p v=_;simp_all,⟨_,bn,z.ga C⟩,⟨n,by grind⟩,λam U=>?_⟩;grind
  grind
 |cell A K=>
  have b:=q.tmp A;simp only[sL] at a;obtain⟨a3,a⟩:=a;split at a
  ·rename_i id l j;rw[j] at b;obtain⟨rfl,g,a0,e,ad,r⟩:=a;generalize D:d.getD A bV=o at b;cases b with|ref t s=>
   rw[e] at t;cases t;have:=s.ty;rw[ad] at this;cases this;obtain⟨L,an,R,rfl,M,Q⟩:=pE (q.tree id _ e).1 s;have V:=s.append (a5.Ik M Q);obtain⟨u,m,k,n,w,z,E,I⟩:=J id g _ e r;obtain⟨ao,S,T⟩:=V.kN w;subst S;subst T;subst ao;have a4:=(E L an bn).1;refine⟨c0 P.1 R,k,?_,⟨_,bn,z.ga C⟩,⟨n,by grind⟩,λam U=>?_⟩
   ·show(do loadVar K (<-asAddr (d.getD A bV)):Sem Value).run p v=_;grind [KU,bW,ct,b1,c0,List.headD,asAddr]
   grind
  grind
theorem uI.rep {j:bY} {o:e4} {f:aQ} {n:ev} {e w0:bC} {i:X->Prop} {z:X->ey} {k:X->aj5} (l:cK o f n e i z k):∀{d:bm aj9} {m:bm aG} {a:aj5},uI j f d m a->∃vs c,(d.mapM (BD n)).run j e=.ok vs e/\mG (Cn i e) m vs c/\(∃w,(a.map k).flatten.Perm (c.flatten++w))/\∀id∈a,∃g,aq f.h id=Y g
 |[],[],a,b=>by obtain rfl:a=[]:=b;exact⟨[],[],bn,trivial,⟨[],.refl _⟩,ac⟩
 |[],g::A,a,b=>b.elim
 |r::d,[],a,b=>b.elim
 |r::d,g::A,a,b=>by
  obtain⟨v,i1,K,rfl,t,u⟩:=b;obtain⟨B,s,C,p,⟨x,D⟩,E⟩:=t.rep l v;obtain⟨vs,c,F,q,⟨y,G⟩,H⟩:=uI.rep (w0:=w0) l u;refine⟨B::vs,s::c,?_,⟨p,q⟩,⟨x++y,?_⟩,λJ I=>?_⟩
  ·simp_all
  ·grind
  grind
theorem MA:∀{k:X} {args:bm hL},∀b∈hV k args,k<=b
 |k,[],b,a=>by cases a
 |k,f::args,b,a=>by
  have d:=MA (k:=k+1) (args:=args);cases f with
  |m e q=>
   rcases fC.1 a with rfl|a
   ·omega
   grind
  |w t p j h r=>
   rcases fC.1 a with rfl|a
   ·omega
   grind
  |v e=>have:=d b a;omega
  |o e=>have:=d b a;omega
  |c n l=>have:=d b a;omega
  |n=>have:=d b a;omega
  |s g i=>have:=d b a;omega
theorem p9.rep {Q:e4} {A:aQ} {E:ev} {w:bC} {F:X->Prop} {L:X->ey} {t:X->aj5} (u:cK Q A E w F L t) {B:X->Prop}:∀{k:X} {f:bm hL} {vs:ey},p9 A k f->vs.length=f.length->(∀e,e∈hV k f->∀v,vs[e-k]?=Y v->E.getD e bV=v)->∃b,mG (y3 F B w) f vs b/\b.flatten=((hV k f).map t).flatten/\∀id∈hV k f,k<=id/\∃r,aq A.h id=Y r
 |k,[],vs,g,C,x=>by cases vs with
  |nil=>exact⟨[],trivial,bn,by simp[hV]⟩
  |cons=>cases C
 |k,G::f,[],g,C,x=>by cases C
 |k,G::f,v::vs,g,C,x=>by
  have p:p9 A (k+1) f->(∀e,e∈hV (k+1) f->e∈hV k (G::f))->∃b,mG (y3 F B w) f vs b/\b.flatten=((hV (k+1) f).map t).flatten/\∀id∈hV (k+1) f,k+1<=id/\∃r,aq A.h id=Y r:=λg T=>by
   have a4:=MA (k:=k+1) (args:=f);exact p9.rep u g (by grind) (λe i am bs=>x e (T e i) am (by
    grind))
  cases G with
  |v r=>
   obtain⟨b,j,q,d⟩:=p g (λe i=>i);exact⟨[]::b,⟨bn,j⟩,by grind [hV],λid a=>⟨by have:=(d id a).1;omega,(d id a).2⟩⟩
  |o r=>
   obtain⟨b,j,q,d⟩:=p g (λe i=>i);exact⟨[]::b,⟨bn,j⟩,by grind [hV],λid a=>⟨by have:=(d id a).1;omega,(d id a).2⟩⟩
  |n=>
   obtain⟨b,j,q,d⟩:=p g (λe i=>i);exact⟨[]::b,⟨bn,j⟩,by grind [hV],λid a=>⟨by have:=(d id a).1;omega,(d id a).2⟩⟩
  |s a3 ce=>
   obtain⟨b,j,q,d⟩:=p g (λe i=>i);exact⟨[]::b,⟨bn,j⟩,by grind [hV],λid a=>⟨by have:=(d id a).1;omega,(d id a).2⟩⟩
  |c n dg=>
   obtain⟨b,j,q,d⟩:=p g (λe i=>i);exact⟨[]::b,⟨bn,j⟩,by grind [hV],λid a=>⟨by have:=(d id a).1;omega,(d id a).2⟩⟩
  |m r ds=>
   obtain⟨⟨J,z,K,U⟩,g⟩:=g;obtain⟨b,j,q,d⟩:=p g (λe i=>gC _ i);have l:=u.tmp k;rw[J] at l;have I:E.getD k bV=v:=x k (by simp[hV]) v ac;rw[I] at l;obtain⟨D,_⟩:=u.tree k _ z;refine⟨t k::b,⟨?_,j⟩,by grind [aln,hV],λid a=>?_⟩
   ·cases l with|ref y H=>
    rw[z] at y;cases y;obtain⟨rfl,rfl,rfl⟩:=akx.1 H;exact⟨L k,bn,D.ga K⟩
   rcases fC.1 a with rfl|a
   ·grind
   grind
  |w an dl ci bl d0=>
   obtain⟨⟨J,z,⟨K,U⟩,bx⟩,g⟩:=g;obtain⟨b,j,q,d⟩:=p g (λe i=>gC _ i);have l:=u.tmp k;rw[J] at l;have I:E.getD k bV=v:=x k (by simp[hV]) v ac;rw[I] at l;obtain⟨D,_⟩:=u.tree k _ z;refine⟨t k::b,⟨?_,j⟩,by grind [aln,hV],λid a=>?_⟩
   ·cases l with
    |mv=>omega
    |view y H ay cs cv=>
    rename_i c2 d1 co M P V N;rw[z] at y;cases y;obtain⟨ao,a0,R⟩:=akx.1 H;simp only[ah.osl.injEq] at ao;subst ao;have O:L k=[.slice (Y ⟨M,P,bo⟩) V N]:=R;have S:=D;obtain⟨ap,av,ad,c1⟩:=S;rw[ad] at O;simp only[h4,aka,ca] at O;refine⟨M,P,N,by rw[au aa],aa,?_⟩;have:=aU.ga (τ:=.osl an) (B':=B) K D;grind
   rcases fC.1 a with rfl|a
   ·grind
   grind
theorem sk.aaf {q:FuncId} {j:Func} {c:cq} {b:bm hL} {a0:bm aj9} {C:bm aG} (dg:E.P.funcs[q]?=Y j) (f:j.body=Y c) (d1:j.results=a0.toArray) (fp:b.length<=j.ntmps) (g:∀d:e4,d.n=j.ntmps->d.pin=hV 0 b++n5 (pK 0 b)->(∀a,d.I0 a\/d.B a->a<d.w0.heap.size/\¬d.F0 a)->uJ d (pK 0 b)->lv E d.I0 d.w0->J E d c ⟨jW 0 b,kp 0 b⟩ (LP E.P b a0 C)):sk E q b C:=by
 intro r s y l K R N ds O U dl;obtain⟨d4,fn⟩:=Hk N;obtain⟨a3,H,bs,bx,eq⟩:=Mz (k:=0) N
 let d:e4:={I0:=s,B:=y,F0:=λa=>a∈K.flatten,w0:=r,n:=j.ntmps,pin:=hV 0 b++n5 (pK 0 b),vs:=λi=>l.getD i bV}
 have ad:∀i,(l.toArray++anJ (j.ntmps-l.toArray.size) bV).getD i bV=l.getD i undef:=(by intro i;rw[anH,k0];grind);obtain⟨fs,ft⟩:=Z0 ds;have co:cK d ⟨jW 0 b,kp 0 b⟩ (l.toArray++anJ (j.ntmps-l.toArray.size) bV) r s a3 H:=by
  refine{n:=?_,i0:=λ_ g=>g,i1:=λ_ g=>.inl g,ib:=R,tree:=?_,dis:=?_,tmp:=?_,frame:=λ_ _ _=>rfl,evo:=λ_ _=>.refl _ _,size:=bd _,os:=rfl,tape:=rfl,output:=rfl,pin:=λi _=>ad i}
  ·grind
  ·intro id m v;obtain⟨_,⟨q,ay,d7⟩,d8⟩:=bs id m v;rw[amZ] at ay;grind [aly,al3]
  ·grind
  intro i;show cP _ _ _ _ _ (gt (jW 0 b) i) _;rw[ad];rcases bx i with g|⟨w,M,ci⟩
  ·rw[mC] at g;rw[g];exact .dead _
  grind
 have d2:uJ d (pK 0 b):=by
  cases o:pK 0 b with
  |none=>trivial
  |some d6=>
   obtain⟨i,q,ap⟩:=d6;rw[o] at U;obtain⟨_,_,a,d5,em,D,F,a4,ek,el⟩:=U;have fr:d.pin=hV 0 b++n5 (Y (i,q,ap)):=(by grind);refine⟨by grind [n5],λan T=>by grind [n5],a,d5,em,D,F,a4,ek,el⟩
 refine calls_of_wp dg f (wp_mono (g d bn rfl (λa f=>⟨R a f,λt=>f.elim (O a t).1 (O a t).2.1⟩) d2 dl _ r ⟨s,a3,H,co⟩ rfl) ?_);rintro ex G x ⟨bl,⟨c2,am,d0,A,t⟩,⟨z,f0,I,e⟩,Q⟩;obtain⟨f1,o,d9,D,⟨fT,F⟩,a4⟩:=uI.rep (w0:=r) e d0;obtain⟨p,ce,L,fl⟩:=p9.rep e (B:=y) (vs:=l) t d4 (λan T w d3=>by
  rw[amZ] at d3;rw[e.pin an (nG _ T)];grind)
 have A:=jJ.ok A;have V:∀id∈hV 0 b++am,∃m,aq bl.h id=Y m:=λid S=>(by grind);have u:=JY e V A;rw[jR,zc,<-L] at u;have u:(p.flatten++o.flatten).Nodup:=(by have:=(am0 p.flatten F).nodup_iff.1 u;grind);have cs:∀a∈p.flatten++o.flatten,∃id m,aq bl.h id=Y m/\a∈I id:=λa f=>(by have f:a∈((hV 0 b++am).map I).flatten:=(by rw[jR,zc,<-L];grind);obtain⟨ap,M,ci⟩:=l1.1 f;obtain⟨id,S,rfl⟩:=eQ.1 M;obtain⟨m,v⟩:=V id S;grind);have av:∃w,(results j G.tmps).run E.P x=.ok w x/\∃z p o cX,Ending.returned w=.returned (qR cX)/\L5 s y r K b l C z p o cX x:=
  ⟨_,aeX d1 G.tmps x d9,z,p,o,_,bn,ce,D,u,(λa f=>by
   obtain⟨id,m,v,cv⟩:=cs a f;obtain⟨ay,d7,d8,fz⟩:=(e.tree id m v).2.2 a cv;grind),e.i0,(λa f=>by
   rcases e.i1 a f with g|g|g
   ·grind
   ·exact .inr ⟨e.ib a (.inl f),.inl g⟩
   exact .inr ⟨e.ib a (.inl f),.inr g⟩),e.size,e.os,e.tape,e.output,e.evo,λa f c1=>e.frame a f c1⟩
 rcases c2 with rfl|rfl
 ·exact⟨Q,av⟩
 exact⟨Q,av⟩
end
end
section
open Classical in
def pick {a:Type} (c:a->Prop):bv a:=if h:∃b,c b then Y h.choose else bo
theorem adt {d:b->Prop} {c:b} (a:pick d=Y c):d c:=by
 unfold pick at a;split at a
 ·grind
 grind
inductive o7 where
 |v (τ:ah)
 |s (a:ak)
 |p (id:X) (a b:bm a6)
 |w (id:X)
structure nH where
 g:bm (X×o7)
 h:bm (X×ah)
@[reducible] def qW:bm (X×o7)->Type->Type
 |[],r=>r
 |(_,.v a)::l,r=>a.den×qW l r
 |(_,.s _)::l,r=>qW l r
 |(_,.p _ _ _)::l,r=>X×qW l r
 |(_,.w _)::l,r=>ej×qW l r
@[reducible] def wq:bm (X×ah)->Type
 |[]=>bt
 |(_,a)::l=>a.den×wq l
@[reducible] def nH.den (a:nH):Type:=qW a.g (wq a.h)
def oF {e:Type}:(c:bm (X×o7))->qW c e->bm (X×ak)
 |[],_=>[]
 |(d,.v f)::c,s=>(d,.val f s.1)::oF c s.2
 |(d,.s a)::c,s=>(d,a)::oF c s
 |(d,.p id a b)::c,s=>(d,.ref id (a++.idx s.1::b))::oF c s.2
 |(d,.w id)::c,s=>(d,.view id [] s.1.1 s.1.2)::oF c s.2
def vv {b:Type}:(a:bm (X×o7))->qW a b->b
 |[],s=>s
 |(_,.v _)::a,s=>vv a s.2
 |(_,.s _)::a,s=>vv a s
 |(_,.p _ _ _)::a,s=>vv a s.2
 |(_,.w _)::a,s=>vv a s.2
def vt:(a:bm (X×ah))->wq a->bm (X×aG)
 |[],_=>[]
 |(d,b)::a,s=>(d,⟨b,s.1⟩)::vt a s.2
def k8 (a:nH) (b:a.den):aQ:=⟨oF a.g b,vt a.h (vv a.g b)⟩
def h7 {τ:ah} (a:ah) (b:τ.den):bv a.den:=if e:τ=a then Y (e▸b) else bo
theorem kq {a:Q.den} {b:k.den} (c:h7 k a=Y b):(⟨Q,a⟩:aG)=⟨k,b⟩:=by grind [h7]
def wx:a6->a6->bA
 |.idx a,.idx b=>bH a b
 |.deref,.deref|.unst,.unst|.fst,.fst|.snd,.snd=>bq
 |_,_=>bp
theorem wx.ok {a b:a6} (c:wx a b=bq):a=b:=by cases a<;>cases b<;>first|rfl|(cases c;done)|(rw[fA c])
def mj:bm a6->bm a6->bA
 |[],[]=>bq
 |a::c,b::d=>wx a b&&mj c d
 |_,_=>bp
theorem mj.ok:∀{c d:bm a6},mj c d=bq->c=d
 |[],[],_=>rfl
 |[],_::_,b=>by cases b
 |_::_,[],b=>by cases b
 |a::c,e::d,b=>by simp only[mj,bk] at b;rw[wx.ok b.1,mj.ok b.2]
def uO:ak->ak->bA
 |.ref a c,.ref b d=>bH a b&&mj c d
 |.addr a c,.addr b d=>bH a b&&mj c d
 |_,_=>bp
theorem uO.ok {a b:ak} (c:uO a b=bq):a=b:=by cases a<;>cases b<;>first|(cases c;done)|(simp only[uO,bk] at c;grind [akR,mj.ok])
def uP:bm ak->bm ak->bA
 |[],[]=>bq
 |a::c,b::d=>uO a b&&uP c d
 |_,_=>bp
theorem uP.ok:∀{c d:bm ak},uP c d=bq->c=d
 |[],[],_=>rfl
 |[],_::_,b=>by cases b
 |_::_,[],b=>by cases b
 |a::c,e::d,b=>by simp only[uP,bk] at b;rw[uO.ok b.1,uP.ok b.2]
def sT:ak->ak->bA
 |.eA c e,.eA d f=>bH c d&&uP e f
 |a,b=>uO a b
theorem sT.ok {a b:ak} (c:sT a b=bq):a=b:=by cases a<;>cases b<;>first|exact uO.ok c|(simp only[sT,bk] at c;grind [akR,uP.ok])
def BS:bm a6->bm a6->bm a6->aj1
 |[],a,.idx k::b=>bif mj a b then Y k else bo
 |s::c,a,d::b=>bif wx s d then BS c a b else bo
 |_,_,_=>bo
theorem SS:∀{d b e:bm a6} {c:X},BS d b e=Y c->e=d++.idx c::b
 |[],b,[],c,a=>by cases a
 |[],b,s::e,c,a=>by
  cases s<;>simp only[BS] at a<;>try (cases a;done)
  grind [mj.ok]
 |s::d,b,[],c,a=>by cases a
 |s::d,b,g::e,c,a=>by
  simp only[BS] at a;cases f:wx s g with
  |false=>grind
  |true=>rw[f] at a;rw[wx.ok f,SS a];rfl
def qQ {f:Type} (e:bm (X×ak)) (g:bv f):(c:bm (X×o7))->bv (qW c f)
 |[]=>g
 |(d,.v o)::c=>match gt e d with
  |.val _ m=>match h7 o m with
   |some n=>(qQ e g c).map (λi=>(n,i))
   |none=>bo
  |_=>bo
 |(d,.s a)::c=>match sT a (gt e d) with
  |true=>qQ e g c
  |false=>bo
 |(d,.p id a b)::c=>match gt e d with
  |.ref h i=>bif bH id h then match BS a b i with
   |some k=>(qQ e g c).map (λf=>(k,f))
   |none=>bo else bo
  |_=>bo
 |(d,.w id)::c=>match gt e d with
  |.view h [] l j=>bif bH id h then(qQ e g c).map (λf=>((l,j),f)) else bo
  |_=>bo
def FW (b:bm (X×aG)):(a:bm (X×ah))->bv (wq a)
 |[]=>Y ()
 |(d,g)::a=>match aq b d with
  |some e=>match h7 g e.2 with
   |some f=>(FW b a).map (λc=>(f,c))
   |none=>bo
  |none=>bo
def x0:bm (X×ah)->X->bA
 |[],_=>bp
 |(k,_)::r,n=>bif bH k n then bq else x0 r n
def qX:bm (X×o7)->bm (X×ah)->bA
 |[],_=>bq
 |(_,.v _)::l,h=>qX l h
 |(_,.s a)::l,h=>(a.ids.all λid=>x0 h id)&&qX l h
 |(_,.p id _ _)::l,h=>x0 h id&&qX l h
 |(_,.w id)::l,h=>x0 h id&&qX l h
def proj (a:nH) (b:aQ):bv a.den:=bif qX a.g a.h then qQ b.g (FW b.h a.h) a.g else bo
theorem EH:∀{b:bm (X×ah)} {c:wq b} {id:X},x0 b id=bq->(aq (vt b c) id).isSome=bq
 |[],_,_,a=>by cases a
 |(k,e)::b,c,id,a=>by
  simp only[x0] at a;simp only[vt,aq];cases d:bH k id with
  |true=>rfl
  |false=>rw[d] at a;exact EH (by grind)
theorem Bv {o:Type} {q:aQ} {n:bv o}:∀{e:bm (X×o7)} {f:qW e o},qQ q.g n e=Y f->pd (oF e f) q/\n=Y (vv e f)
 |[],f,c=>⟨trivial,c⟩
 |(d,.v F)::e,f,c=>by
  simp only[qQ] at c;split at c
  case h_2=>cases c
  rename_i G D t;split at c
  case h_2=>cases c
  rename_i E u;obtain⟨x,k,rfl⟩:=fG.1 c;obtain⟨h,i⟩:=Bv k;refine⟨⟨?_,h⟩,i⟩;rw[t];cases kq u;rfl
 |(d,.s a)::e,f,c=>by
  simp only[qQ] at c;split at c
  case h_2=>cases c
  rename_i r;obtain⟨h,i⟩:=Bv c;exact⟨⟨(sT.ok r).symm,h⟩,i⟩
 |(d,.p id a b)::e,f,c=>by
  simp only[qQ] at c;split at c
  case h_2=>cases c
  rename_i m x k;cases j:bH id m with
  |false=>grind
  |true=>
  rw[j] at c;simp only[bG] at c;split at c
  case h_2=>cases c
  rename_i B A;obtain⟨y,l,rfl⟩:=fG.1 c;obtain⟨h,i⟩:=Bv l;refine⟨⟨?_,h⟩,i⟩;grind [SS,akR]
 |(d,.w id)::e,f,c=>by
  simp only[qQ] at c;split at c
  case h_2=>cases c
  rename_i m C z k;cases j:bH id m with
  |false=>grind
  |true=>
  rw[j] at c;simp only[bG] at c;obtain⟨y,l,rfl⟩:=fG.1 c;obtain⟨h,i⟩:=Bv l;refine⟨⟨?_,h⟩,i⟩;simp_all
theorem Rz {e:aQ}:∀{b:bm (X×ah)} {c:wq b},FW e.h b=Y c->pe (vt b c) e
 |[],c,a=>trivial
 |(d,m)::b,c,a=>by
  simp only[FW] at a;split at a
  case h_2=>cases a
  rename_i k g;split at a
  case h_2=>cases a
  rename_i l i;obtain⟨j,f,rfl⟩:=fG.1 a;refine⟨?_,Rz f⟩;grind [kq]
theorem BQ {r:Type} {c:bm (X×ah)} {t:wq c}:∀{l:bm (X×o7)} {s:qW l r},qX l c=bq->mN (oF l s) (vt c t)=bq
 |[],s,h=>rfl
 |(d,.v e)::l,s,h=>by have:=BQ (r:=r) (t:=t) (l:=l) (s:=s.2) h;simp only[mN,oF,sx,bS,anK,amk] at this|-;omega
 |(d,.s a)::l,s,h=>by simp only[qX,bk] at h;have:=BQ (r:=r) (t:=t) (l:=l) (s:=s) h.2;simp only[mN,oF,sx,bk] at this|-;grind [EH,alg]
 |(_,.p id a b)::l,s,h=>by simp only[qX,bk] at h;have:=BQ (r:=r) (t:=t) (l:=l) (s:=s.2) h.2;simp only[mN,oF,sx,bk] at this|-;refine⟨?_,this⟩;simp_all [EH,sx,anK,am1,bS]
 |(_,.w id)::l,s,h=>by simp only[qX,bk] at h;have:=BQ (r:=r) (t:=t) (l:=l) (s:=s.2) h.2;simp only[mN,oF,sx,bk] at this|-;refine⟨?_,this⟩;simp_all [EH,sx,anK,am1,bS]
theorem tW {a:nH} {b:a.den} (c:proj a i=Y b):pd (k8 a b).g i/\pe (k8 a b).h i/\mN (k8 a b).g (k8 a b).h=bq:=by
 unfold proj at c;cases d:qX a.g a.h with
 |false=>grind
 |true=>
  rw[d] at c;obtain⟨e,f⟩:=Bv c;exact⟨e,Rz f,BQ d⟩
inductive hB where
 |v (τ:ah)
 |m (τ:ah)
 |o (τ:ah)
 |c (f:X) (τs:bm ah)
 |n
 |s (f:X) (l:aj5)
 |w (σ:ah)
@[reducible] def lO:bm ah->Type
 |[]=>bt
 |τ::a=>τ.den×lO a
@[reducible] def hD:bm hB->Type
 |[]=>bt
 |.c _ e::a=>lO e×hD a
 |.n::a=>bt×hD a
 |.s _ _::a=>bt×hD a
 |.v b::a=>b.den×hD a
 |.m b::a=>b.den×hD a
 |.o b::a=>b.den×hD a
 |.w d::a=>(bm d.den×X×X)×hD a
@[reducible] def jd:bm hB->Type->Type
 |[],a=>a
 |.m e::b,a=>e.den×jd b a
 |.w d::b,a=>bm d.den×jd b a
 |.v _::b,a=>jd b a
 |.o _::b,a=>jd b a
 |.c _ _::b,a=>jd b a
 |.n::b,a=>jd b a
 |.s _ _::b,a=>jd b a
structure jO where
 f:X
 ps:bm hB
 rs:bm ah
 yL:hD ps->bv (jd ps (lO rs))
def jn:(c:bm ah)->lO c->bm aG
 |[],_=>[]
 |τ::b,a=>⟨τ,a.1⟩::jn b a.2
def gK {j:Type}:(f:bm hB)->hD f->jd f j->bm hL
 |[],_,_=>[]
 |.v e::d,a,b=>.v ⟨e,a.1⟩::gK d a.2 b
 |.m e::d,a,b=>.m ⟨e,a.1⟩ b.1::gK d a.2 b.2
 |.o e::d,a,b=>.o ⟨e,a.1⟩::gK d a.2 b
 |.c h l::d,a,b=>.c h (jn l a.1)::gK d a.2 b
 |.n::d,a,b=>.n::gK d a.2 b
 |.w k::d,a,b=>.w k a.1.1 a.1.2.1 a.1.2.2 b.1::gK d a.2 b.2
 |.s g i::d,a,b=>.s g i::gK d a.2 b
def iE {d:Type}:(e:bm hB)->jd e d->d
 |[],a=>a
 |.m _::b,a=>iE b a.2
 |.w _::b,a=>iE b a.2
 |.v _::b,a=>iE b a
 |.o _::b,a=>iE b a
 |.c _ _::b,a=>iE b a
 |.n::b,a=>iE b a
 |.s _ _::b,a=>iE b a
def jM:X->bm hB->bv dY
 |_,[]=>bo
 |k,.s a b::_=>Y (k,a,b)
 |k,_::c=>jM (k+1) c
theorem BL {r:Type}:∀{k:X} {ps:bm hB} {a:hD ps} {b:jd ps r},pK k (gK ps a b)=jM k ps
 |k,[],a,b=>rfl
 |k,e::d,a,b=>by have c:=λa b=>BL (r:=r) (k:=k+1) (ps:=d) (a:=a) (b:=b);cases e<;>first|exact c _ _|rfl
def aC (E:fF) (a:jO):Prop:=
 (∀(d:ev) (e:bC),(callFunc a.f d).run E.P e=.ok (.enter a.f d) e)/\∀c b,a.yL c=Y b->sk E a.f (gK a.ps c b) (jn a.rs (iE a.ps b))
def h8:(j:ah)->j.den->bm a6->(a:ah)->bv a.den
 |_,c,[],a=>h7 a c
 |.osl d,i,.idx h::b,a=>match i[h]? with
  |some g=>h8 d g b a
  |none=>bo
 |.optr d,c,.deref::b,a=>h8 d c b a
 |.st d,c,.unst::b,a=>h8 d c b a
 |.pr e _,c,.fst::b,a=>h8 e c.1 b a
 |.pr _ f,c,.snd::b,a=>h8 f c.2 b a
 |_,_,_,_=>bo
def XX {a:k.den}:h8 k a [] Q=h7 Q a:=by cases k<;>rfl
theorem jc:∀{g:bm a6} {τ:ah} {e:τ.den} {d:ah} {f:d.den},h8 τ e g d=Y f->eT τ e g d f
 |[],τ,e,d,f,c=>by rw[XX] at c;cases kq c;grind [eT.gz]
 |s::g,τ,e,d,f,c=>by
  cases τ<;>cases s<;>simp only[h8] at c<;>try (cases c;done)
  case osl.idx t i=>
   split at c
   ·rename_i h j;exact⟨h,j,jc c⟩
   grind
  case optr.deref t=>exact jc (τ:=t) c
  case st.unst t=>exact jc (τ:=t) c
  case pr.fst a b=>exact jc (τ:=a) c
  case pr.snd a b=>exact jc (τ:=b) c
def yt {τ':ah} (b:τ'.den) (a:ah):bv a.den:=if e:eK τ' a=bq then Y (cast (eK.den e) b) else bo
theorem Rm {b:Q.den} {c:k.den} (a:yt b k=Y c):ow Q b k c:=by
 unfold yt at a;split at a
 ·rename_i d;cases a;exact .same d (cast_heq _ _).symm
 grind
def Bt:(c:ah)->c.den->(b:ah)->bv b.den
 |.optr d,a,.ptr .c9 e=>(yt (τ':=d) a e).map Y
 |_,a,b=>yt a b
theorem adj {c:Q.den} {d:k.den} (a:Bt Q c k=Y d):ow Q c k d:=by
 unfold Bt at a;split at a
 ·obtain⟨f,b,rfl⟩:=fG.1 a;simp only[yt] at b;split at b
  ·rename_i e;cases b;exact .ptr e (cast_heq _ _).symm
  grind
 exact Rm a
def qq:ah->Value->bA
 |τ,.agg _=>pA τ
 |_,.tuple _=>bp
 |τ,_=>!pA τ
theorem qq.ok (a:qq k R=bq):c0 k R.cells.toList=R:=by
 cases R<;>simp only[qq] at a<;>first
  |(cases a;done)
  |(rw[F4 a];rfl)
  |(rw[uo] at a;rw[F3 a];rfl)
def nN (
 h:bm (X×aG)) (f:aj5):ak->(a:ah)->bv a.den
 |.val _ g,a=>yt g a
 |.dh d,a=>bif qq a d then i9 a d.cells.toList else bo
 |.ref id c,a=>match eX id f with
  |true=>bo
  |false=>match aq h id with
   |none=>bo
   |some b=>match fw b.1 c with
    |none=>bo
    |some e=>match h8 b.1 b.2 c e with
     |none=>bo
     |some i=>Bt e i a
 |_,_=>bo
theorem Hp {h:k.den} (a:nN e f d k=Y h):y1 e f d ⟨k,h⟩:=by
 cases d with
 |val c b=>exact Rm a
 |dh p=>
  simp only[nN] at a;cases i:qq k p with
  |false=>grind
  |true=>rw[i] at a;exact⟨a,qq.ok i⟩
 |ref id n=>
  simp only[nN] at a;split at a
  ·cases a
  rename_i j;split at a
  ·cases a
  rename_i o l;split at a
  ·cases a
  rename_i c q;split at a
  ·cases a
  rename_i b m;have:eX id f=bp/\∃g c b,aq e id=Y g/\eT g.1 g.2 n c b/\ow c b k h:=⟨j,o,c,b,l,jc m,adj a⟩;exact this
 |_=>cases a
def uT (d:bm (X×aG)) (c:aj5):ak->(b:ah)->bv b.den
 |.hG a,.ptr .bg e=>bif o0 e then(nN d c a e).map Y else bo
 |a,b=>nN d c a b
def sZ (d:bm (X×aG)) (c:aj5):bm ak->(b:ah)->bv b.den
 |[],.nil=>Y ()
 |a::f,.pr e b=>bif o0 e then(uT d c a e).bind λh=>(sZ d c f b).map λg=>(h,g) else bo
 |_,_=>bo
def xm (d:bm (X×aG)) (c:aj5):ak->(b:ah)->bv b.den
 |.hG (.eA f e),.ptr .bg (.fn g h)=>bif bH f g then(sZ d c e h).map Y else bo
 |a,b=>uT d c a b
def M1 {c:k.den} (a:uT e f d k=Y c):o3 e f d k c:=by
 unfold uT at a;split at a
 ·rename_i i h;cases b:o0 h with
  |false=>rw[b] at a;cases a
  |true=>
   rw[b,bG] at a;obtain⟨j,g,rfl⟩:=fG.1 a;exact .hG b (.base (Hp g))
 exact .base (Hp a)
def M3 {h:bm (X×aG)} {g:aj5}:∀{f:bm ak} {c:ah} {d:c.den},sZ h g f c=Y d->wL h g f c d
 |[],c,d,b=>by
  cases c<;>simp only[sZ] at b<;>try (cases b;done)
  exact .nil
 |a::f,c,d,b=>by
  cases c<;>simp only[sZ] at b<;>try (cases b;done)
  rename_i c l;cases e:o0 c with
  |false=>rw[e] at b;cases b
  |true=>
   rw[e,bG] at b;obtain⟨m,j,b⟩:=eV.1 b;obtain⟨k,i,rfl⟩:=fG.1 b;exact .cons e (M1 j) (M3 i)
def VV {c:k.den} (a:xm e f d k=Y c):o3 e f d k c:=by
 unfold xm at a;split at a
 ·rename_i h j i l;cases b:bH h i with
  |false=>rw[b] at a;cases a
  |true=>
   rw[b,bG] at a;obtain rfl:=fA b;obtain⟨m,g,rfl⟩:=fG.1 a;exact .hG bn (.eA (M3 g))
 exact M1 a
def pw (b:bm (X×aG)) (a:aj5):(g:bm ah)->bm ak->bv (lO g)
 |[],[]=>Y ()
 |τ::d,c::as=>match xm b a c τ with
  |some f=>(pw b a d as).map (λe=>(f,e))
  |none=>bo
 |_,_=>bo
def OG {f:bm (X×aG)} {d:aj5}:∀{c:bm ah} {e:bm ak} {b:lO c},pw f d c e=Y b->iM (λb g=>o3 f d b g.1 g.2) e (jn c b)
 |[],[],_,_=>trivial
 |[],_::_,_,a=>by cases a
 |_::_,[],_,a=>by cases a
 |τ::k,j::as,b,a=>by
  simp only[pw] at a;split at a
  case h_2=>cases a
  rename_i m i;obtain⟨l,h,rfl⟩:=fG.1 a;exact⟨VV i,OG h⟩
def se:bm ak->bm hB->aj5
 |.ref id []::as,.m _::a=>id::se as a
 |.ref id []::as,.o _::a=>id::se as a
 |.view id [] _ _::as,.w _::a=>id::se as a
 |_::as,_::a=>se as a
 |_,_=>[]
def tO:Value->bA
 |.slice bo 0 0=>bq
 |_=>bp
theorem tO.ok (a:tO R=bq):R=.slice bo 0 0:=by grind [tO]
def Bk:(a:ah)->Value->bv a.den
 |.osl _,.slice bo 0 0=>Y []
 |_,_=>bo
theorem aaa {b:k.den} (a:Bk k R=Y b):R=.slice bo 0 0/\∃c,(⟨k,b⟩:aG)=⟨.osl c,[]⟩:=by
 unfold Bk at a;split at a
 ·simp_all
 grind
def fQ (d:bm (X×aG)) (f:aj5):(t:bm hB)->bm ak->bv (hD t)
 |[],[]=>Y ()
 |.v g::b,p::as=>match nN d f p g with
  |some e=>(fQ d f b as).map (λa=>(e,a))
  |none=>bo
 |.c r u::b,.eA q a::as=>bif bH q r then match pw d f u a with
  |some e=>(fQ d f b as).map (λa=>(e,a))
  |none=>bo else bo
 |.m g::b,.ref id []::as=>bif g.ga&&sg g then match aq d id with
  |some h=>match h7 g h.2 with
   |some e=>(fQ d f b as).map (λa=>(e,a))
   |none=>bo
  |none=>bo else bo
 |.o g::b,.ref id []::as=>match aq d id with
  |some h=>match h7 g h.2 with
   |some e=>(fQ d f b as).map (λa=>(e,a))
   |none=>bo
  |none=>bo
 |.n::b,.dh i::as=>bif tO i then(fQ d f b as).map (λa=>((),a)) else bo
 |.s _ _::b,_::as=>(fQ d f b as).map (λa=>((),a))
 |.o g::b,.dh i::as=>match Bk g i with
  |some e=>(fQ d f b as).map (λa=>(e,a))
  |none=>bo
 |.w l::b,.view id [] k j::as=>bif l.ga then(bif b9 k j then match aq d id with
  |some h=>match h7 (.osl l) h.2 with
   |some e=>(fQ d f b as).map (λa=>((e,k,j),a))
   |none=>bo
  |none=>bo else bo) else bo
 |_,_=>bo
def CA {h:Type} (f:bm (X×aG)) (e:aj5) (av:ak) (c:ah) (d:c.den->bv h):bv h:=match av with
 |.ref id g=>match eX id e with
  |true=>bo
  |false=>match aq f id with
   |none=>bo
   |some a=>match fw a.1 g with
    |none=>bo
    |some i=>(h8 a.1 a.2 g i).bind λj=>match Bt i j c with
     |none=>bo
     |some b=>d b
 |av=>match nN f e av c with
  |none=>bo
  |some b=>d b
theorem Vl {c:k.den->bv b}:CA e f d k c=(nN e f d k).bind c:=by
 cases d with
 |ref id g=>
  grind [eX,aq,fw,h8,Bt,CA,nN]
 |_=>
  simp only[CA];split
  ·rename_i a;rw[a];rfl
  rename_i a;rw[a];rfl
def kw {p:Type} (e:bm (X×aG)) (g:aj5):(x:bm hB)->bm ak->(hD x->bv p)->bv p
 |[],[],a=>a ()
 |.v h::d,r::as,a=>CA e g r h λf=>kw e g d as λb=>a (f,b)
 |.c u y::d,.eA t b::as,a=>bif bH t u then match pw e g y b with
  |some f=>kw e g d as λb=>a (f,b)
  |none=>bo else bo
 |.m h::d,.ref id []::as,a=>bif h.ga&&sg h then match aq e id with
  |some i=>match h7 h i.2 with
   |some f=>kw e g d as λb=>a (f,b)
   |none=>bo
  |none=>bo else bo
 |.o h::d,.ref id []::as,a=>match aq e id with
  |some i=>match h7 h i.2 with
   |some f=>kw e g d as λb=>a (f,b)
   |none=>bo
  |none=>bo
 |.n::d,.dh j::as,a=>bif tO j then kw e g d as λb=>a ((),b) else bo
 |.s _ _::d,_::as,a=>kw e g d as λb=>a ((),b)
 |.o h::d,.dh j::as,a=>match Bk h j with
  |some f=>kw e g d as λb=>a (f,b)
  |none=>bo
 |.w q::d,.view id [] l k::as,a=>bif q.ga then(bif b9 l k then match aq e id with
  |some i=>match h7 (.osl q) i.2 with
   |some f=>kw e g d as λb=>a ((f,l,k),b)
   |none=>bo
  |none=>bo else bo) else bo
 |_,_,_=>bo
theorem nV {A:Type} {d:bm (X×aG)} {f:aj5}:∀{k:bm hB} {q:bm ak} {b:hD k->bv A},kw d f k q b=(fQ d f k q).bind b
 |[],[],b=>rfl
 |[],_::_,b=>rfl
 |p::a,[],b=>by cases p<;>rfl
 |.v h::a,e::as,b=>by
  simp only[kw,fQ,Vl];cases nN d f e h with
  |none=>rfl
  |some g=>
   simp only[aE];rw[nV];cases fQ d f a as<;>rfl
 |.c z B::a,e::as,b=>by
  cases e with
  |eA y i=>
   simp only[kw,fQ];cases bH y z with
   |false=>rfl
   |true=>
    simp only[bG];cases pw d f B i with
    |none=>rfl
    |some g=>
     simp only;rw[nV];cases fQ d f a as<;>rfl
  |ref id p=>cases p<;>rfl
  |_=>rfl
 |.m h::a,e::as,b=>by
  cases e with
  |ref id p=>
   cases p with
   |cons=>rfl
   |nil=>
    simp only[kw,fQ];cases(h.ga&&sg h) with
    |false=>rfl
    |true=>
     simp only[bG];cases aq d id with
     |none=>rfl
     |some j=>
      simp only;cases h7 h j.2 with
      |none=>rfl
      |some g=>
       simp only;rw[nV];cases fQ d f a as<;>rfl
  |_=>rfl
 |.o h::a,e::as,b=>by
  cases e with
  |ref id p=>
   cases p with
   |cons=>rfl
   |nil=>
    simp only[kw,fQ];cases aq d id with
    |none=>rfl
    |some j=>
     simp only;cases h7 h j.2 with
     |none=>rfl
     |some g=>
      simp only;rw[nV];cases fQ d f a as<;>rfl
  |dh l=>
   simp only[kw,fQ];cases Bk h l with
   |none=>rfl
   |some g=>
    simp only;rw[nV];cases fQ d f a as<;>rfl
  |_=>rfl
 |.w u::a,e::as,b=>by
  cases e with
  |view id p t r=>
   cases p with
   |cons=>rfl
   |nil=>
    simp only[kw,fQ];cases u.ga with
    |false=>rfl
    |true=>
     simp only[bG];cases b9 t r with
     |false=>rfl
     |true=>
     simp only[bG];cases aq d id with
     |none=>rfl
     |some j=>
      simp only;cases h7 (.osl u) j.2 with
      |none=>rfl
      |some g=>
       simp only;rw[nV];cases fQ d f a as<;>rfl
  |ref id p=>cases p<;>rfl
  |_=>rfl
 |.n::a,e::as,b=>by
  cases e with
  |dh l=>
   simp only[kw,fQ];cases tO l with
   |false=>rfl
   |true=>
    simp only[bG];rw[nV];cases fQ d f a as<;>rfl
  |ref id p=>cases p<;>rfl
  |_=>rfl
 |.s C i::a,e::as,b=>by
  have x:∀g:bv (hD a),(g.bind λi=>b ((),i))=(g.map λi=>((),i)).bind b:=λg=>(by cases g<;>rfl);cases e with
  |ref id p=>cases p<;>(simp only[kw,fQ];rw[nV];grind)
  |view id p t r=>cases p<;>(simp only[kw,fQ];rw[nV];grind)
  |_=>simp only[kw,fQ];rw[nV];exact x _
theorem Lh {r:Type}:∀{ps:bm hB} {a:hD ps} {b:jd ps r} {avs:bm ak},gw avs (gK ps a b)=se avs ps
 |[],a,b,avs=>by cases avs with|nil=>rfl|cons h c=>cases h<;>first|rfl|(rename_i id p;cases p<;>rfl)|(rename_i id p c g;cases p<;>rfl)
 |p::c,a,b,[]=>by cases p<;>rfl
 |p::c,a,b,f::avs=>by have d:=λa b=>Lh (r:=r) (ps:=c) (a:=a) (b:=b) (avs:=avs);cases p<;>cases f<;>first|exact d _ _|(rename_i id e;cases e<;>simp only[gK,gw,se,d];done)|(rename_i id e c g;cases e<;>simp only[gK,gw,se,d])
theorem qC {G:Type} {q:bm (X×aG)} {u:aj5}:∀{r:bm hB} {e:hD r} {g:jd r G} {h:bm ak},fQ q u r h=Y e->o2 q u h (gK r e g)
 |[],e,g,[],_=>trivial
 |[],e,g,_::_,a=>by cases a
 |p::i,e,g,[],a=>by cases p<;>cases a
 |.v t::i,e,g,d::h,a=>by
  simp only[fQ] at a;split at a
  case h_2=>cases a
  rename_i l j;obtain⟨k,b,rfl⟩:=fG.1 a;exact⟨by cases d<;>exact Hp j,qC b⟩
 |.c F J::i,e,g,d::h,a=>by
  cases d with
  |eA E k=>
   simp only[fQ] at a;cases f:bH E F with
   |false=>grind
   |true=>
    rw[f] at a;obtain rfl:=fA f;simp only[bG] at a;split at a
    case h_2=>cases a
    rename_i l j;obtain⟨I,b,rfl⟩:=fG.1 a;exact⟨⟨bn,OG j⟩,qC b⟩
  |ref id p=>cases p<;>cases a
  |_=>cases a
 |.m t::i,e,g,d::h,a=>by
  cases d with
  |ref id p=>cases p with
   |cons=>cases a
   |nil=>
    simp only[fQ] at a;cases f:(t.ga&&sg t) with
    |false=>grind
    |true=>
     rw[f] at a;simp only[bk] at f;simp only[bG] at a;split at a
     case h_2=>cases a
     rename_i B A;split at a
     case h_2=>cases a
     rename_i l j;obtain⟨k,b,rfl⟩:=fG.1 a;refine⟨⟨?_,f.1,f.2⟩,qC b⟩;grind [kq]
  |_=>cases a
 |.o t::i,e,g,d::h,a=>by
  cases d with
  |ref id p=>cases p with
   |cons=>cases a
   |nil=>
    simp only[fQ] at a;split at a
    case h_2=>cases a
    rename_i B A;split at a
    case h_2=>cases a
    rename_i l j;obtain⟨k,b,rfl⟩:=fG.1 a;refine⟨?_,qC b⟩;show aq q id=Y _;grind [kq]
  |dh C=>
   simp only[fQ] at a;split at a
   case h_2=>cases a
   rename_i l j;obtain⟨k,b,rfl⟩:=fG.1 a;exact⟨aaa j,qC b⟩
  |_=>cases a
 |.w H::i,e,g,d::h,a=>by
  cases d with
  |view id p y x=>cases p with
   |cons=>cases a
   |nil=>
    simp only[fQ] at a;cases f:H.ga with
    |false=>grind
    |true=>
     rw[f] at a;simp only[bG] at a;cases z:b9 y x with
     |false=>grind
     |true=>
     rw[z] at a;simp only[bG] at a;split at a
     case h_2=>cases a
     rename_i B A;split at a
     case h_2=>cases a
     rename_i l j;obtain⟨k,b,rfl⟩:=fG.1 a;refine⟨⟨?_,⟨bn,bn⟩,gX z,f⟩,qC b⟩;grind [kq]
  |ref id p=>cases p<;>cases a
  |_=>cases a
 |.n::i,e,g,d::h,a=>by
  cases d with
  |dh C=>
   simp only[fQ] at a;cases f:tO C with
   |false=>grind
   |true=>
    rw[f] at a;obtain⟨k,b,rfl⟩:=fG.1 a;exact⟨tO.ok f,qC b⟩
  |ref id p=>cases p<;>cases a
  |_=>cases a
 |.s D k::i,e,g,d::h,a=>by
  have a:(fQ q u i h).map (λl=>(((),l):hD (.s D k::i)))=Y e:=by
   cases d with
   |ref id p=>cases p<;>exact a
   |view id p y x=>cases p<;>exact a
   |_=>exact a
  obtain⟨l,b,rfl⟩:=fG.1 a;refine⟨?_,qC b⟩;cases d with
  |ref id p=>cases p<;>trivial
  |view id p y x=>cases p<;>trivial
  |_=>trivial
end
section
def mV:(τ:ah)->τ.den->bm a6->(b:ah)->b.den->bv τ.den
 |τ,_,[],_,a=>h7 τ a
 |.osl f,h,.idx g::c,b,a=>match h[g]? with
  |some k=>(mV f k c b a).map λe=>h.set g e
  |none=>bo
 |.optr f,d,.deref::c,b,a=>mV f d c b a
 |.st f,d,.unst::c,b,a=>mV f d c b a
 |.pr i _,d,.fst::c,b,a=>(mV i d.1 c b a).map λe=>(e,d.2)
 |.pr _ j,d,.snd::c,b,a=>(mV j d.2 c b a).map λe=>(d.1,e)
 |_,_,_,_,_=>bo
theorem ae4 {b:k.den} {a:Q.den}:mV k b [] Q a=h7 k a:=by cases k<;>rfl
theorem ff.ZY {d:k.den} {a:Q.den} {b:k.den} (c:h7 k a=Y b):ff k d [] Q a b:=by cases kq c;cases k<;>exact⟨bn,bn⟩
theorem nw:∀{k:bm a6} {τ:ah} {g:τ.den} {f:ah} {h:f.den} {j:τ.den},mV τ g k f h=Y j->ff τ g k f h j
 |[],τ,g,f,h,j,c=>by grind [ff.ZY,ae4]
 |s::k,τ,g,f,h,j,c=>by
  cases τ<;>cases s<;>simp only[mV] at c<;>try (cases c;done)
  case osl.idx t i=>
   split at c
   ·rename_i l m;obtain⟨d,e,rfl⟩:=fG.1 c;exact⟨l,d,m,nw e,bn⟩
   grind
  case optr.deref t=>exact nw (τ:=t) c
  case st.unst t=>exact nw (τ:=t) c
  case pr.fst a b=>
   obtain⟨d,e,rfl⟩:=fG.1 c;exact⟨d,nw e,bn⟩
  case pr.snd a b=>
   obtain⟨d,e,rfl⟩:=fG.1 c;exact⟨d,nw e,bn⟩
def g8 (a:Z):aj1:=if 0<=a then Y a.toNat else bo
theorem ZQ {b:Z} (c:g8 b=Y a):b=(a:Z):=by grind [g8]
def ba (b:X) (a:Z):aj1:=if 0<=a/\a.toNat<b then Y a.toNat else bo
theorem OY {b:Z} (c:ba m b=Y a):b=(a:Z)/\a<m:=by grind [ba]
def cI (a:X):bv bt:=if a<=hJ then Y () else bo
theorem yc {b:bt} (c:cI a=Y b):a<=hJ:=by grind [cI]
def kA (b:cr) (c a:Z):ez:=if a≠0 then Y (b.wrap (c.tdiv a)) else bo
def jf (b a:Z):ez:=if a≠0 then Y (b.tmod a) else bo
def ig (a:cr) (c b:Z):ez:=if 0<=b then Y (a.wrap (c*2^min b.toNat a.bits)) else bo
def eN (b:cr) (c a:Z):ez:=if 0<=a then Y (c.fdiv (2^min a.toNat b.bits)) else bo
def e0 (a:cr) (b c:Z):Z:=a.wrap (cf a.bits b&&&cf a.bits c).toNat
def gv (a:cr) (b c:Z):Z:=a.wrap (cf a.bits b|||cf a.bits c).toNat
def uk (a:cr) (b c:Z):Z:=a.wrap (cf a.bits b^^^cf a.bits c).toNat
def Cy (a:cr) (b c:Z):Z:=a.wrap (cf a.bits b&&&~~~cf a.bits c).toNat
def xj (c:bv ak) (a:X):aj1:=
 match c with
 |none=>Y a
 |some (.val (.int _) b)=>g8 b
 |some _=>bo
theorem CK {c:bv ak} (b:xj c a=Y m):sX c a m:=by
 unfold xj at b;unfold sX;split at b
 ·grind
 ·exact ZQ b
 grind
def hZ (b a c:X):bv bt:=if b<=a/\a<=c then Y () else bo
theorem Ph {b:X} {c:bt} (d:hZ m a b=Y c):m<=a/\a<=b:=by grind [hZ]
def wa (_:X):bv bt:=Y ()
def fR (a b:Z):aj1:=if 0<=a/\a<=b/\b<=(hJ:Z) then Y a.toNat else bo
open Classical in
def r1 {b:Type} (c:X) (d a:bv b):bv b:=if c=0 then if d=a then a else bo else a
theorem ZV {d e:bv b} {c:b} (f:r1 a d e=Y c):e=Y c/\(a=0->d=Y c):=by grind [absurd,r1]
def qo:aj6:=[0,1,28,2,29,14,24,3,30,22,20,15,25,17,4,8,31,27,13,23,21,19,16,7,26,12,18,6,11,5,10,9]
inductive G3 where
 |e5 (av:ak)
 |opt (α:Type) (o:bv α) (f:α->ak)
 |new (α:Type) (o:bv α) (t:α->aG) (d:X)
 |no
def kO (tt:bm (bF×ah)) (z:bm (X×ah)) (k:bm (X×aG)) (g:bM->ak) (w:X) (v:Op):G3:=
 match v with
 |.binOp v _ b e _=>match g b,g e with
  |.val (.int c) b,.val (.int A) e=>if c=A then
   (match v with
   |.add=>.e5 (.val (.int c) (c.wrap (b+e)))
   |.sub=>.e5 (.val (.int c) (c.wrap (b-e)))
   |.mul=>.e5 (.val (.int c) (c.wrap (b*e)))
   |.quo=>.opt Z (kA c b e) (.val (.int c))
   |.rem=>.opt Z (jf b e) (.val (.int c))
   |.shl=>.opt Z (ig c b e) (.val (.int c))
   |.shr=>.opt Z (eN c b e) (.val (.int c))
   |.and=>.e5 (.val (.int c) (e0 c b e))
   |.or=>.e5 (.val (.int c) (gv c b e))
   |.xor=>.e5 (.val (.int c) (uk c b e))
   |.andNot=>.e5 (.val (.int c) (Cy c b e))
   |_=>.no) else
   (match v with
   |.shl=>.opt Z (ig c b e) (.val (.int c))
   |.shr=>.opt Z (eN c b e) (.val (.int c))
   |_=>.no)
  |_,_=>.no
 |.unOp .neg _ b=>match g b with
  |.val (.int c) b=>.e5 (.val (.int c) (c.wrap (0-b)))
  |_=>.no
 |.convert t p b=>match aq tt t,aq tt p,g b with
  |some (.int _),Y (.int c),.val (.int _) b=>.e5 (.val (.int c) (c.wrap b))
  |_,_,_=>.no
 |.nilCheck b=>match g b with
  |.val (.ptr r a) b=>.opt a.den b λe=>.val (.ptr r a) (Y e)
  |_=>.no
 |.indexAddr h b q=>match gZ tt h,g q with
  |some i,.val (.int _) q=>match g b with
   |.val (.a8 r a) j=>bif bb i a then .opt a.den (ar j q) λe=>.val (.ptr r a) (Y e) else .no
   |.ref id f=>match aq k id with
    |some d=>match fw d.1 f with
     |some (.osl a)=>bif bb i a then .opt X ((h8 d.1 d.2 f (.osl a)).bind λj=>ba j.length q) λc=>.addr id (f++[.idx c]) else .no
     |_=>.no
    |none=>.no
   |.view id [] s u=>match aq k id with
    |some d=>match d.1 with
     |.osl a=>bif bb i a then .opt X (ba (u-s) q) λc=>.addr id [.idx (s+c)] else .no
     |_=>.no
    |none=>.no
   |_=>.no
  |_,_=>.no
 |.load h b=>match aq tt h with
  |some i=>match g b with
   |.addr id f=>match aq k id with
    |some d=>match fw d.1 f with
     |some a=>bif bb i a&&a.pure then .opt a.den (h8 d.1 d.2 f a) λe=>.val a e else .no
     |none=>.no
    |none=>.no
   |.ref id f=>match aq k id with
    |some d=>match fw d.1 f with
     |some (.optr a)=>bif bb i a&&a.pure then .opt a.den (h8 d.1 d.2 (f++[.deref]) a) λe=>.val a e else .no
     |_=>.no
    |none=>.no
   |.val (.ptr _ a) b=>bif bb i a then .opt a.den b λe=>v8 a e else .no
   |_=>.no
  |none=>.no
 |.fieldAddr h b m=>match lL tt h,g b with
  |some i,.val (.ptr r (.st a)) b=>bif bb i a&&(fJ a m).isSome then .opt a.den b λe=>(match rN a e m with
   |some n=>.val (.ptr r n.1) (Y n.2)
   |none=>.dead) else .no
  |_,_=>.no
 |.slice h b s u bo=>match gZ tt h with
  |some i=>match g b with
   |.val (.a8 r a) j=>bif bb i a then
    .opt ej ((xj (s.map g) 0).bind λl=>(xj (u.map g) j.length).bind λp=>(hZ l p j.length).map λ_=>(l,p)) (λn=>.val (.a8 r a) ((j.take n.2).drop n.1)) else .no
   |.ref id f=>match aq k id with
    |some d=>match fw d.1 f with
     |some (.osl a)=>bif bb i a then
      .opt ej ((h8 d.1 d.2 f (.osl a)).bind λj=>(xj (s.map g) 0).bind λl=>(xj (u.map g) j.length).bind λp=>(hZ l p j.length).bind λ_=>(wa j.length).map λ_=>(l,p)) (λn=>.view id f n.1 n.2) else .no
     |_=>.no
    |none=>.no
   |_=>.no
  |none=>.no
 |.makeSlice h l o=>match gZ tt h,aq z w,aq k w with
  |some i,Y (.osl a),bo=>match mw a,g l,g o with
   |some y,.val (.int _) l,.val (.int _) o=>bif bb i a&&b2 a.size 2000 then
    .new X (fR l o) (λm=>⟨.osl a,bI m y⟩) w else .no
   |_,_,_=>.no
  |_,_,_=>.no
 |.index h b q=>match aq tt h,g b,g q with
  |some .str,.dh (.string t),.val (.int _) m=>.opt Z (q0 t m) (.val (.int .u8))
  |some .str,.val .str t,.val (.int _) m=>.opt Z (q0 t m) (.val (.int .u8))
  |_,_,_=>.no
 |.lookup h b c B=>match lg tt h,g b,g c with
  |some i,.ref id f,.val (.int .i64) c=>match aq k id with
   |some d=>match fw d.1 f with
    |some (.mp a)=>match mw a with
     |some y=>bif bb i a then .opt (bv (bm (Z×a.den)×X)) (h8 d.1 d.2 f (.mp a)) λx=>Fo a x y c B else .no
     |none=>.no
    |_=>.no
   |none=>.no
  |_,_,_=>.no
 |.call o=>match o.callee,o.args.toList,o.argTypes.toList with
  |.builtin .len,[b],[h]=>match gZ tt h,g b with
   |some _,.ref id f=>match aq k id with
    |some d=>match fw d.1 f with
     |some (.osl a)=>.opt (bm a.den) (h8 d.1 d.2 f (.osl a)) λj=>.val (.int .i64) (j.length:Z)
     |_=>.no
    |none=>.no
   |none,.ref id f=>match lg tt h,aq k id with
    |some _,Y d=>match fw d.1 f with
     |some (.mp a)=>.opt (bv (bm (Z×a.den)×X)) (h8 d.1 d.2 f (.mp a)) λx=>.val (.int .i64) (yf x)
     |_=>.no
    |_,_=>.no
   |_,_=>.no
  |_,_,_=>.no
 |_=>.no
theorem Ot:∀{t:ah} {y:t.den} {b:X},(fJ t b).isSome=bq->∃d,rN t y b=Y d
 |.pr e c,y,0,_=>⟨_,bn⟩
 |.pr e c,y,b+1,a=>by
  simp only[fJ] at a;split at a
  ·rename_i d f;exact Ot (t:=c) (by grind)
  grind
 |.int _,_,_,a=>by cases a
 |.bool,_,_,a=>by cases a
 |.str,_,_,a=>by cases a
 |.a8 _ _,_,_,a=>by cases a
 |.ptr _ _,_,_,a=>by cases a
 |.osl _,_,_,a=>by cases a
 |.optr _,_,_,a=>by cases a
 |.st _,_,_,a=>by cases a
 |.nil,_,_,a=>by cases a
 |.eF,_,_,a=>by cases a
def G3.K (g:G3) (b:ak->bm (X×aG)->Prop):Prop:=
 match g with
 |.e5 e=>b e []
 |.opt _ c f=>∃a,c=Y a/\b (f a) []
 |.new _ c h d=>∃a,c=Y a/\b (.ref d []) [(d,h a)]
 |.no=>b4
theorem Iy {tt:bm (bF×ah)} {P:Op} {Q:ak->bm (X×aG)->Prop} (b:(kO tt l e U a P).K Q):(g5 tt l e U a P).K Q:=by
 unfold kO at b;split at b
 ·rename_i P r m j a0;simp only[g5];split at b
  case h_2=>exact b.elim
  rename_i q m T j h ad;simp only[h,ad];split at b
  ·rename_i x;subst x;split at b
   ·simp only[ma,cj];exact⟨_,⟨trivial,bn⟩,b⟩
   ·simp only[ma,cj];exact⟨_,⟨trivial,bn⟩,b⟩
   ·simp only[ma,cj];exact⟨_,⟨trivial,bn⟩,b⟩
   ·obtain⟨w,i,f⟩:=b;unfold kA at i;split at i
    ·rename_i c;cases i;simp only[ma,cj];exact⟨_,⟨c,bn⟩,f⟩
    grind
   ·obtain⟨w,i,f⟩:=b;unfold jf at i;split at i
    ·rename_i c;cases i;simp only[ma,cj];exact⟨_,⟨c,bn⟩,f⟩
    grind
   ·obtain⟨w,i,f⟩:=b;unfold ig at i;split at i
    ·rename_i c;cases i;exact⟨_,⟨c,bn⟩,f⟩
    grind
   ·obtain⟨w,i,f⟩:=b;unfold eN at i;split at i
    ·rename_i c;cases i;exact⟨_,⟨c,bn⟩,f⟩
    grind
   ·simp only[ma,cj];exact⟨_,⟨trivial,bn⟩,b⟩
   ·simp only[ma,cj];exact⟨_,⟨trivial,bn⟩,b⟩
   ·simp only[ma,cj];exact⟨_,⟨trivial,bn⟩,b⟩
   ·simp only[ma,cj];exact⟨_,⟨trivial,bn⟩,b⟩
   exact b.elim
  split at b
  ·obtain⟨w,i,f⟩:=b;unfold ig at i;split at i
   ·rename_i c;cases i;exact⟨_,⟨c,bn⟩,f⟩
   grind
  ·obtain⟨w,i,f⟩:=b;unfold eN at i;split at i
   ·rename_i c;cases i;exact⟨_,⟨c,bn⟩,f⟩
   grind
  exact b.elim
 ·rename_i r m;simp only[g5];split at b
  case h_2=>exact b.elim
  rename_i q m h;rw[h];exact⟨_,bn,b⟩
 ·rename_i V x m;simp only[g5,CS];split at b
  case h_2=>exact b.elim
  rename_i T q a4 m ao o h;rw[ao,o,h];exact⟨_,bn,b⟩
 ·rename_i m;simp only[g5,vY];split at b
  case h_2=>exact b.elim
  rename_i E g m h;rw[h];obtain⟨j,rfl,f⟩:=b;exact⟨j,bn,f⟩
 ·rename_i r m S;simp only[g5,vF];split at b
  case h_2=>exact b.elim
  rename_i k q S ao o;rw[ao,o];simp only;split at b
  ·rename_i E g D h;rw[h];simp only;cases d:bb k g with
   |false=>rw[d] at b;exact b.elim
   |true=>
   rw[d] at b;obtain⟨j,c,f⟩:=b;exact⟨j,c,f⟩
  ·rename_i id B h;rw[h];simp only;split at b
   case h_2=>exact b.elim
   rename_i t n;rw[n];simp only;split at b
   case h_2=>exact b.elim
   rename_i g p;rw[p];simp only;cases d:bb k g with
   |false=>rw[d] at b;exact b.elim
   |true=>
   rw[d] at b;obtain⟨j,c,f⟩:=b;obtain⟨D,N,c⟩:=eV.1 c;obtain⟨u,v⟩:=OY c;exact⟨(D,j),⟨jc N,u,v⟩,f⟩
  ·rename_i id ap am h;rw[h];simp only;split at b
   case h_2=>exact b.elim
   rename_i t n;obtain⟨bx,m⟩:=t;rw[n];simp only at b|-;split at b
   case h_2=>exact b.elim
   rename_i g;simp only[fw];cases d:bb k g with
   |false=>rw[d] at b;exact b.elim
   |true=>
   rw[d] at b;obtain⟨q,an,f⟩:=b;obtain⟨u,v⟩:=OY an;exact⟨(m,q),⟨⟨bn,bn⟩,u,v⟩,f⟩
  exact b.elim
 ·rename_i r m;simp only[g5,vL];split at b
  case h_2=>exact b.elim
  rename_i k ao;rw[ao];simp only;split at b
  ·rename_i id B h;rw[h];simp only;split at b
   case h_2=>exact b.elim
   rename_i t n;rw[n];simp only;split at b
   case h_2=>exact b.elim
   rename_i g p;rw[p];simp only[wg];cases d:(bb k g&&g.pure) with
   |false=>rw[d] at b;exact b.elim
   |true=>
   rw[d] at b;simp only[bk] at d;rw[d.1,d.2];obtain⟨j,c,f⟩:=b;exact⟨j,jc c,f⟩
  ·rename_i id B h;rw[h];simp only;split at b
   case h_2=>exact b.elim
   rename_i t n;rw[n];simp only;split at b
   case h_2=>exact b.elim
   rename_i g p;rw[p];simp only[wg];cases d:(bb k g&&g.pure) with
   |false=>rw[d] at b;exact b.elim
   |true=>
   rw[d] at b;simp only[bk] at d;rw[d.1,d.2];obtain⟨j,c,f⟩:=b;exact⟨j,jc c,f⟩
  ·rename_i E g m h;rw[h];cases d:bb k g with
   |false=>rw[d] at b;exact b.elim
   |true=>
   rw[d] at b;obtain⟨j,rfl,f⟩:=b;simp only[d,bG];exact f
  exact b.elim
 ·rename_i r m O;simp only[g5,vA];split at b
  case h_2=>exact b.elim
  rename_i k E g m ao h;rw[ao,h];cases d:(bb k g&&(fJ g O).isSome) with
  |false=>rw[d] at b;exact b.elim
  |true=>
  rw[d] at b;simp only[bk] at d;obtain⟨j,rfl,f⟩:=b;obtain⟨bs,R⟩:=Ot (y:=j) d.2;simp only[R] at f;simp only[d.1,bG,R];exact f
 ·rename_i r m ap am;simp only[g5,wu];split at b
  case h_2=>exact b.elim
  rename_i k ao;rw[ao];simp only;split at b
  ·rename_i E g D h;rw[h];simp only;cases d:bb k g with
   |false=>rw[d] at b;exact b.elim
   |true=>
   rw[d] at b;obtain⟨j,c,f⟩:=b;obtain⟨A,L,c⟩:=eV.1 c;obtain⟨x,J,c⟩:=eV.1 c;obtain⟨av,M,rfl⟩:=fG.1 c;obtain⟨u,v⟩:=Ph M;exact⟨(A,x),⟨CK L,CK J,u,v⟩,f⟩
  ·rename_i id B h;rw[h];simp only;split at b
   case h_2=>exact b.elim
   rename_i t n;rw[n];simp only;split at b
   case h_2=>exact b.elim
   rename_i g p;rw[p];simp only;cases d:bb k g with
   |false=>rw[d] at b;exact b.elim
   |true=>
   rw[d] at b;obtain⟨j,c,f⟩:=b;obtain⟨D,N,c⟩:=eV.1 c;obtain⟨A,L,c⟩:=eV.1 c;obtain⟨x,J,c⟩:=eV.1 c;obtain⟨av,M,c⟩:=eV.1 c;obtain⟨fe,a3,rfl⟩:=fG.1 c;obtain⟨u,v⟩:=Ph M;exact⟨(D,A,x),⟨jc N,CK L,CK J,u,v⟩,f⟩
  exact b.elim
 ·rename_i r A G;simp only[g5,vO];split at b
  case h_2=>exact b.elim
  rename_i k g ao o s;rw[ao,o,s];simp only;split at b
  case h_2=>exact b.elim
  rename_i w q A T G z C H;rw[z,C,H];simp only;cases d:(bb k g&&b2 g.size 2000) with
  |false=>rw[d] at b;exact b.elim
  |true=>
  rw[d] at b;obtain⟨j,c,f⟩:=b;unfold fR at c;split at c
  ·rename_i I;cases c;exact⟨(A.toNat,G.toNat),⟨(aoJ I.1).symm,(aoJ (Int.le_trans I.1 I.2.1)).symm,aa,aa⟩,f⟩
  grind
 ·rename_i r m S;simp only[g5,Gp];split at b
  ·rename_i V q O ao o s;rw[ao,o,s];obtain⟨F,d,f⟩:=b;exact⟨F,d,f⟩
  ·rename_i V q O ao o s;rw[ao,o,s];obtain⟨F,d,f⟩:=b;exact⟨F,d,f⟩
  exact b.elim
 ·rename_i r m q bl;simp only[g5,vM];split at b
  case h_2=>exact b.elim
  rename_i k id B q ao o s;rw[ao,o,s];simp only;split at b
  case h_2=>exact b.elim
  rename_i t n;rw[n];simp only;split at b
  case h_2=>exact b.elim
  rename_i g p;rw[p];simp only;split at b
  case h_2=>exact b.elim
  rename_i w i;rw[i];simp only;cases d:bb k g with
  |false=>rw[d] at b;exact b.elim
  |true=>
  rw[d] at b;obtain⟨j,c,f⟩:=b;exact⟨j,jc c,f⟩
 ·rename_i G;simp only[g5];split at b
  ·rename_i m r ao o s;rw[ao,o,s];simp only;split at b
   ·rename_i k id B z C;rw[z,C];simp only[vJ,z];split at b
    case h_2=>exact b.elim
    rename_i t n;rw[n];simp only;split at b
    case h_2=>exact b.elim
    rename_i g p;rw[p];obtain⟨j,c,f⟩:=b;exact⟨j,jc c,f⟩
   ·rename_i id B z C;rw[z,C];simp only[vR];split at b
    case h_2=>exact b.elim
    rename_i k t H n;rw[H,n];simp only;split at b
    case h_2=>exact b.elim
    rename_i g p;rw[p];obtain⟨j,c,f⟩:=b;exact⟨j,jc c,f⟩
   exact b.elim
  exact b.elim
 exact b.elim
def jF {e:Type} (c d:bm e) (a b:X):bm e:=c.take a++(d.take (b-a)++c.drop (a+min d.length (b-a)))
end
section
def A1:ak->bA
 |.val _ _=>bq
 |_=>bp
def Jo:ak->bA
 |.val _ _=>bq
 |.eA _ a=>a.all A1
 |_=>bp
theorem Jp (b:Jo d=bq):∀id∈d.ids,False:=by
 intro id c;cases d with
 |val f e=>grind [bS]
 |eA g a=>
  have b:a.all A1=bq:=b;have:∀a:bm ak,a.all A1=bq->∀id∈ak8 a,False:=by
   intro a
   induction a with
   |nil=>grind [ak8]
   |cons d a h=>
    intro b id c;simp only[sx,bk] at b;simp only[ak8,hn] at c;rcases c with c|c
    ·cases d with
     |val f e=>grind [bS]
     |_=>cases b.1
    grind
  exact this a b id c
 |_=>cases b
def pX (C:e4) (c:bm (X×ak)):Prop:=
 (∀a,C.I0 a\/C.B a->a<C.w0.heap.size/\¬C.F0 a)/\
 ∀b∈c,b.1∈C.pin/\Jo b.2=bq/\cP (be C.I0 C.B) C.w0 [] (λ_=>[]) (λ_=>[]) b.2 (C.vs b.1)
section
variable {E:fF} {C:e4}
def pX.nil (b:∀a,C.I0 a\/C.B a->a<C.w0.heap.size/\¬C.F0 a):pX C []:=⟨b,λc b=>by cases b⟩
theorem X3 (c b:bm (X×ak)) (a:X):gt (c++b) a=match aq c a with|some d=>d|none=>gt b a:=by grind [kR,aq,gt]
theorem A6 {e:Type}:∀{c:bm (X×e)} {b:X} {d:e},aq c b=Y d->(b,d)∈c
 |[],_,_,a=>by cases a
 |(f,v0)::c,b,d,a=>by
  rw[di] at a;split at a
  ·grind
  exact gC _ (A6 a)
def gM.kg (f:pX C S) {j:ev} (n:gM C i j v):gM C ⟨S++i.g,i.h⟩ j v:=by
 obtain⟨k,w,m,b⟩:=n;refine⟨k,w,m,{b with tmp:=λc=>?_}⟩;show cP _ _ _ _ _ (gt (S++i.g) c) _;rw[X3];split
 ·rename_i l s;obtain⟨o,p,d⟩:=f.2 _ (A6 s);have d:cP (be C.I0 C.B) C.w0 [] (λ_=>[]) (λ_=>[]) l (C.vs c):=d;rw[b.pin c o];refine d.tL (λt a e=>?_) (λid r=>(Jp p id r).elim);have q:C.I0 a\/C.B a:=nm e;obtain⟨ay,u⟩:=f.1 a q;refine⟨?_,anL (b.frame a ay u)⟩;cases t
  ·exact b.i0 a e
  exact e.imp (b.i0 a) id
 exact b.tmp c
def J.kg {d:bm (X×ak)} (k:pX C d) {c:cq} {a:aQ} {b:b5->aQ->Prop} (f:J E C c ⟨d++a.g,a.h⟩ b):J E C c a b:=
 λe l i j=>f e l (i.kg k) j
def tx (a:bm (X×ak)):aj5->bv (bm (X×ak))
 |[]=>Y []
 |k::c=>match gt a k with
  |.val g f=>(tx a c).map λb=>(k,.val g f)::b
  |.eA e d=>bif d.all A1 then(tx a c).map λb=>(k,.eA e d)::b else bo
  |_=>bo
theorem Jg {h:bm (X×ak)}:∀{g:aj5} {d:bm (X×ak)},tx h g=Y d->∀b∈d,b.1∈g/\Jo b.2=bq/\gt h b.1=b.2
 |[],d,c,b,a=>by cases c;cases a
 |k::g,d,c,b,a=>by
  simp only[tx] at c;split at c
  ·rename_i q p f;obtain⟨n,e,rfl⟩:=fG.1 c;rcases fC.1 a with rfl|a
   ·exact⟨js ..,bn,f⟩
   obtain⟨j,l⟩:=Jg e b a;grind
  ·rename_i o m f;cases i:m.all A1 with
   |false=>grind
   |true=>
   rw[i] at c;obtain⟨n,e,rfl⟩:=fG.1 c;rcases fC.1 a with rfl|a
   ·exact⟨js ..,i,f⟩
   obtain⟨j,l⟩:=Jg e b a;grind
  grind
theorem J.keep {K:cq} {H:bm (X×ak)} (r:pX C S) (ap:tx i.g f=Y H) (l:∀k:e4,k.n=C.n->k.pin=f++C.pin->pX k (H++S)->(∀t,uJ C t->uJ k t)->(lv E C.I0 C.w0->lv E k.I0 k.w0)->J E k K i y):J E C K i y:=by
 rintro u I ⟨z,M,A,b⟩ ad
 let k:e4:={I0:=z,B:=C.B,F0:=λa=>∃id d,aq i.h id=Y d/\a∈A id,w0:=I,n:=C.n,pin:=f++C.pin,vs:=λq=>u.tmps.getD q bV}
 have U:cK k i u.tmps I z M A:=
  {n:=b.n,i0:=λ_ l=>l,i1:=λ_ l=>.inl l,ib:=b.ib,tree:=λid d j=>⟨(b.tree id d j).1,(b.tree id d j).2.1,λa c=>⟨((b.tree id d j).2.2 a c).1,((b.tree id d j).2.2 a c).2.1,((b.tree id d j).2.2 a c).2.2.1,.inr ⟨id,d,j,c⟩⟩⟩,dis:=b.dis,tmp:=b.tmp,frame:=λ_ _ _=>rfl,evo:=λ_ _=>.refl _ _,size:=bd _,os:=rfl,tape:=rfl,output:=rfl,pin:=λq _=>rfl}
 have an:pX k (H++S):=by
  refine⟨λa c=>⟨b.ib a c,?_⟩,λw p=>?_⟩
  ·rintro⟨id,d,j,V⟩;obtain⟨ay,x,_⟩:=(b.tree id d j).2.2 a V;grind
  rcases hn.1 p with p|p
  ·obtain⟨m,o,D⟩:=Jg ap w p;refine⟨hn.2 (.inl m),o,?_⟩;have:=b.tmp w.1;rw[D] at this;exact this.tL (λL a s=>⟨s,cp _ _⟩) (λid F=>(Jp o id F).elim)
  obtain⟨m,o,D⟩:=r.2 w p;refine⟨hn.2 (.inr m),o,?_⟩;show cP _ _ _ _ _ _ (u.tmps.getD w.1 bV);rw[b.pin _ m];refine D.tL (λL a s=>?_) (λid F=>(Jp o id F).elim);obtain⟨ay,x⟩:=r.1 a (nm s);refine⟨?_,anL (b.frame a ay x)⟩;cases L
  ·exact b.i0 a s
  exact s.imp (b.i0 a) id
 have a0:∀t,uJ C t->uJ k t:=by
  rintro(_|⟨q,dl,d0⟩) av
  ·trivial
  obtain⟨N,O,a,a3,c1,ci,P,co,d1,cs⟩:=av;refine⟨k1 _ N,λv G=>k1 _ (O v G),a,a3,c1,(b.pin q N).trans ci,jh P b.size,?_,?_,?_⟩
  ·rintro⟨id,d,j,c⟩;rcases((b.tree id d j).2.2 a c).2.2.2 with m|m
   ·omega
   grind
  ·have c:=b.frame a P co;grind [block,alk]
  rw[cs];exact iJ λv G=>(b.pin v (O v G)).symm
 refine wp_mono (l k bn rfl an a0 (λT=>b.glob r.1 T) u I ⟨z,M,A,U⟩ ad) ?_;rintro dg c2 d2 ⟨cv,p,⟨Q,ce,R,e⟩,am⟩;have ds:∀a,k.F0 a->C.w0.heap.size<=a\/C.F0 a:=(by rintro a ⟨id,d,j,c⟩;exact((b.tree id d j).2.2 a c).2.2.2);refine⟨cv,p,⟨Q,ce,R,?_⟩,am⟩;refine{n:=e.n,i0:=λa c=>e.i0 a (b.i0 a c),i1:=λa c=>?_,ib:=e.ib,tree:=λid d j=>?_,dis:=e.dis,tmp:=e.tmp,frame:=λa m o=>?_,evo:=λa c=>(b.evo a c).trans (e.evo a (jh c b.size)),size:=c4 b.size e.size,os:=e.os.trans b.os,tape:=e.tape.trans b.tape,output:=e.output.trans b.output,pin:=λq r=>?_}
 ·rcases e.i1 a c with l|l|l
  ·exact b.i1 a l
  ·exact .inr (.inl (c4 b.size l))
  grind
 ·obtain⟨ay,x,a4⟩:=e.tree id d j;refine⟨ay,x,λa c=>?_⟩;obtain⟨bl,bs,bx,aS⟩:=a4 a c;refine⟨bl,bs,bx,?_⟩;rcases aS with l|l
  ·exact .inl (c4 b.size l)
  grind
 ·refine(e.frame a (jh m b.size) ?_).trans (b.frame a m o);grind
 rw[e.pin q (hn.2 (.inr r))];exact b.pin q r
end
end
structure cH where
 d:bv (X×ak)
 S:aj5
 keep:bm (X×bm a6)
 put:bm (X×aG)
variable{q:cH}
def nX (a:aj5) (c:bm (X×bm a6)) (b:bm (X×ak)):bm (X×ak):=match a with
 |[]=>b
 |_=>akm a c b
def rI (a:aj5) (b:bm (X×aG)):bm (X×aG):=match a with
 |[]=>b
 |_=>del a b
def cH.app (a:cH) (b:aQ):aQ:=⟨match a.d with
 |some c=>c::nX a.S a.keep b.g
 |none=>nX a.S a.keep b.g,a.put++rI a.S b.h⟩
theorem Yz (b:bm (X×bm a6)) (a:ak):fK [] b a=a:=by
 have c:∀a,fh [] b a=a:=λa=>(by have:(a.ids.any λd=>eX d [])=bp:=(by grind [anM,eX]);simp only[fh,akh,this,anN,bP]);cases a with
 |fj e=>grind [aks,anO,fK]
 |_=>exact c _
theorem YE (c:bm (X×bm a6)):∀b:bm (X×ak),akm [] c b=b
 |[]=>rfl
 |(k,a)::b=>by simp_all [gW,Yz,akm]
theorem Ws:∀a:bm (X×aG),del [] a=a
 |[]=>rfl
 |x::a=>by simp_all [lZ,aw,eX,del]
theorem tz (a:aj5) (c:bm (X×bm a6)) (b:bm (X×ak)):nX a c b=akm a c b:=by
 cases a
 ·exact(YE c b).symm
 rfl
theorem xQ (a:aj5) (b:bm (X×aG)):rI a b=del a b:=by
 cases a
 ·exact(Ws b).symm
 rfl
def sd {k:Type} (tt:bm (bF×ah)) (f:bm (X×aG)) (m:bF) (q v:ak) (e:cH->bv k):bv k:=
 match r6 f q with
 |none=>bo
 |some (
  id,p)=>match aq f id,aq tt m with
  |some a,Y o=>match fw a.1 p with
   |none=>bo
   |some b=>bif bb o b then match v with
    |.ref c g=>match aq f c with
     |some l=>bif bH id c then bo else(h8 l.1 l.2 g b).bind λh=>(mV a.1 a.2 p b h).bind λd=>e ⟨bo,[id,c],[(id,p)],[(id,⟨a.1,d⟩)]⟩
     |none=>bo
    |.app c g i j n=>match h7 (τ:=.osl i) b j with
     |some _=>bif bH c id&&mj g p then(h8 a.1 a.2 p (.osl i)).bind λr=>(mV a.1 a.2 p (.osl i) (r++j)).bind λd=>e ⟨bo,id::n,[(id,p)],[(id,⟨a.1,d⟩)]⟩ else bo
     |none=>bo
    |v=>match coe b v with
     |some h=>(mV a.1 a.2 p b h).bind λd=>e ⟨bo,[id],[(id,p)],[(id,⟨a.1,d⟩)]⟩
     |none=>bo
   else bo
  |_,_=>bo
theorem afu {q:b} {n:cH->bv b} {tt:bm (bF×ah)} (a:sd tt i.h c t d n=Y q) (k:∀o,n o=Y q->u (o.app i)):(Gn tt i c t d).K u:=by
 unfold sd at a;unfold Gn;split at a
 ·cases a
 rename_i id A v;rw[v];simp only;split at a
 case h_2=>cases a
 rename_i F B w r;obtain⟨O,M⟩:=F;rw[w,r];simp only at a|-;split at a
 ·cases a
 rename_i D z;rw[z];simp only;cases s:bb B D with
 |false=>grind
 |true=>
 rw[s] at a;simp only[bG] at a|-;split at a
 ·rename_i l p;split at a
  case h_2=>cases a
  rename_i E x;obtain⟨P,J⟩:=E;cases e:bH id l with
  |true=>grind
  |false=>
  rw[e] at a;obtain⟨m,f,a⟩:=eV.1 a;obtain⟨j,g,a⟩:=eV.1 a;simp only[x,e,bP];exact⟨(m,j),⟨jc f,nw g⟩,k _ a⟩
 ·rename_i l p N L I;split at a
  case h_2=>cases a
  rename_i m f;cases kq f;cases e:(bH l id&&mj p A) with
  |false=>grind
  |true=>
  rw[e] at a;simp only[bk] at e;obtain⟨C,y,a⟩:=eV.1 a;obtain⟨j,g,a⟩:=eV.1 a;simp only[alm];exact⟨(C,j),⟨fA e.1,mj.ok e.2,jc y,nw g⟩,k _ a⟩
 rename_i d G H;split at a
 case h_2=>cases a
 rename_i m f;obtain⟨j,g,a⟩:=eV.1 a;split
 ·grind
 ·grind
 rw[f];exact⟨j,nw g,k _ a⟩
def lu (e:bm (X×aG)) (a:ah) (i:ak):bv (bm a.den):=
 match i with
 |.val (.a8 _ h) d=>h7 (τ:=.osl h) (.osl a) d
 |.dh (.slice bo 0 0)=>Y []
 |.ref id c=>match aq e id with
  |some b=>bif a.pure then h8 b.1 b.2 c (.osl a) else bo
  |none=>bo
 |.view id c g f=>match aq e id with
  |some b=>bif a.pure then(h8 b.1 b.2 c (.osl a)).bind λd=>Y ((d.take f).drop g) else bo
  |none=>bo
 |_=>bo
def l9.GQ {c:ah} (e:l9 c) (b:bm c.den):Prop:=
 match e with
 |.e5 f=>f=b
 |.part _ g d=>∃a,g a/\d a=b
 |.bad=>b4
theorem B6 {f:bm k.den} (a:lu e k d=Y f):(si e k d).GQ f:=by
 unfold lu at a;unfold si;split at a
 ·rename_i p q h;cases kq a;simp only[alm];rfl
 ·cases a;rfl
 ·rename_i id j;split at a
  case h_2=>cases a
  rename_i g c;obtain⟨m,l⟩:=g;simp only[c];cases b:k.pure with
  |false=>grind
  |true=>rw[b] at a;exact⟨f,jc a,bn⟩
 ·rename_i id j o n;split at a
  case h_2=>cases a
  rename_i g c;obtain⟨m,l⟩:=g;simp only[c];cases b:k.pure with
  |false=>grind
  |true=>
   rw[b] at a;obtain⟨h,i,a⟩:=eV.1 a;cases a;exact⟨h,jc i,bn⟩
 grind
def l9.GQ.to {d:ah} {c:l9 d} {a:bm d.den} (b:c.GQ a) {g:X->Prop} {f:bm d.den->aQ} {e:aQ->Prop} (h:g a.length) (i:e (f a)):(c.to g f).K e:=by
 cases c with
 |e5 l=>obtain rfl:l=a:=b;exact⟨(),h,i⟩
 |part n o m=>obtain⟨k,j,rfl⟩:=b;exact⟨k,⟨j,h⟩,i⟩
 |bad=>exact b.elim
def pc {n:Type} (tt:bm (bF×ah)) (p:bm (X×ah)) (d:bm (X×aG)) (b:X) (o:bF) (q g:ak) (f:cH->bv n):bv n:=
 match gZ tt o with
 |none=>bo
 |some i=>
  match q with
  |.ref id []=>match aq d id with
   |some ⟨.osl a,e⟩=>bif bb i a&&b2 a.size 1300 then
    match a.pure with
    |true=>(lu d a g).bind λc=>(cI (e.length+c.length)).bind λ_=>f ⟨Y (b,.ref b []),[id,b],[],[(b,⟨.osl a,e++c⟩)]⟩
    |false=>match g with
     |.ref k []=>match aq d k with
      |some r=>match h7 (.osl a) r.2 with
       |some c=>bif bH id k then bo else(cI (e.length+cz (α:=a.den) c)).bind λ_=>f ⟨Y (b,.ref b []),[id,k,b],[],[(b,⟨.osl a,List.append (α:=a.den) e c⟩)]⟩
       |none=>bo
      |none=>bo
     |_=>bo
    else bo
   |_=>bo
  |.ref id h=>match aq d id,aq d b with
   |some j,bo=>match fw j.1 h with
    |some (.osl a)=>bif bb i a&&b2 a.size 1300&&a.kT then
     (h8 j.1 j.2 h (.osl a)).bind λe=>(lu d a g).bind λc=>(cI (cz (α:=a.den) e+c.length)).bind λ_=>
      f ⟨Y (b,.app id h a c [b]),[id],[(id,h),(id,[])],[(b,⟨.eF,()⟩),(id,j)]⟩
     else bo
    |_=>bo
   |_,_=>bo
  |.view id [] m l=>match aq d id with
   |some ⟨.osl a,e⟩=>bif bb i a&&b2 a.size 1300 then
    (lu d a g).bind λc=>(cI (cz (α:=a.den) ((e.take l).drop m)+c.length)).bind λ_=>f ⟨Y (b,.ref b []),[id,b],[],[(b,⟨.osl a,(e.take l).drop m++c⟩)]⟩
    else bo
   |_=>bo
  |.dh (.slice bo 0 0)=>match aq p b with
   |some (.osl a)=>bif bb i a&&b2 a.size 1300 then
    (lu d a g).bind λc=>(cI c.length).bind λ_=>f ⟨Y (b,.ref b []),[b],[],[(b,⟨.osl a,c⟩)]⟩
    else bo
   |_=>bo
  |_=>bo
theorem Ve {A:b} {w:cH->bv b} {tt:bm (bF×ah)} (e:pc tt l i.h a c d t w=Y A) (m:∀x,w x=Y A->u (x.app i)):(Cz tt l i a c d t).K u:=by
 unfold pc at e;unfold Cz;split at e
 ·cases e
 rename_i s F;rw[F];simp only;split at e
 ·rename_i id;simp only;split at e
  case h_2=>cases e
  rename_i j v n;rw[n];simp only;cases k:(bb s j&&b2 j.size 1300) with
  |false=>grind
  |true=>
  rw[k] at e;simp only[bG] at e|-;split at e
  ·rename_i q;rw[q];obtain⟨p,f,e⟩:=eV.1 e;obtain⟨_,g,e⟩:=eV.1 e;exact(B6 f).to (yc g) (m _ e)
  rename_i q;rw[q];split at e
  case h_2=>cases e
  rename_i H;split at e
  case h_2=>cases e
  rename_i M E;obtain⟨V,R⟩:=M;split at e
  case h_2=>cases e
  rename_i p f;cases kq f;cases y:bH id H with
  |true=>grind
  |false=>
  rw[y] at e;obtain⟨_,g,e⟩:=eV.1 e;simp only[E,alm,y,bP];exact⟨(),yc g,m _ e⟩
 ·rename_i id z q;split at e
  case h_2=>cases e
  rename_i L n D;obtain⟨U,S⟩:=L;simp only at e;split at e
  case h_2=>cases e
  rename_i j G;cases k:(bb s j&&b2 j.size 1300&&j.kT) with
  |false=>grind
  |true=>
  rw[k] at e;obtain⟨v,r,e⟩:=eV.1 e;obtain⟨p,f,e⟩:=eV.1 e;obtain⟨_,g,e⟩:=eV.1 e;have g:=yc g;have f:=B6 f;have r:=jc r;cases z with
  |nil=>grind
  |cons Q z=>
  simp only[n,D,G,k,bG];split
  ·rename_i J o;rw[o] at f;obtain rfl:J=p:=f;exact⟨v,⟨r,g⟩,m _ e⟩
  ·rename_i T ad N o;rw[o] at f;obtain⟨I,B,rfl⟩:=f;exact⟨(v,I),⟨r,B,g⟩,m _ e⟩
  rename_i o;rw[o] at f;exact f.elim
 ·rename_i id P O;simp only;split at e
  case h_2=>cases e
  rename_i j v n;rw[n];simp only;cases k:(bb s j&&b2 j.size 1300) with
  |false=>grind
  |true=>
  rw[k] at e;simp only[bG] at e|-;obtain⟨p,f,e⟩:=eV.1 e;obtain⟨_,g,e⟩:=eV.1 e;exact(B6 f).to (yc g) (m _ e)
 ·simp only;split at e
  case h_2=>cases e
  rename_i j C;rw[C];simp only;cases k:(bb s j&&b2 j.size 1300) with
  |false=>grind
  |true=>
  rw[k] at e;simp only[bG] at e|-;obtain⟨p,f,e⟩:=eV.1 e;obtain⟨_,g,e⟩:=eV.1 e;exact(B6 f).to (yc g) (m _ e)
 grind
def ql (d:bm (X×ah)) (c:bm (X×aG)) (a:X) (h:ak):bv cH:=
 match h with
 |.ref id []=>match aq c id with
  |some b=>Y ⟨Y (a,.ref a []),[id,a],[],[(a,b)]⟩
  |none=>bo
 |.ref id g=>bif bH id a then bo else Y ⟨Y (a,.ref id g),[a],[],[]⟩
 |.view id [] f e=>match aq c id with
  |some ⟨.osl b,i⟩=>Y ⟨Y (a,.ref a []),[id,a],[],[(a,⟨.osl b,(i.take e).drop f⟩)]⟩
  |_=>bo
 |.dh (.slice bo 0 0)=>match aq d a with
  |some (.osl b)=>Y ⟨Y (a,.ref a []),[a],[],[(a,⟨.osl b,[]⟩)]⟩
  |_=>bo
 |_=>bo
theorem Vp (b:ql l i.h a d=Y q) (e:u (q.app i)):(CB l i a d).K u:=by
 unfold ql at b;unfold CB;split at b
 ·split at b
  ·rename_i j c;cases b;simp only[c];exact e
  grind
 ·rename_i id g k;cases f:bH id a with
  |true=>grind
  |false=>
  rw[f] at b;cases b;cases g with
  |nil=>grind
  |cons m g=>simp only[f,bP];exact e
 ·split at b
  ·rename_i j n c;cases b;simp only[c];exact e
  grind
 ·split at b
  ·rename_i j c;cases b;simp only[c];exact e
  grind
 grind
section
section
variable {E:fF} {C:e4} {st:aQ} {a:Act} {w w':bC} {I:X->Prop} {rt:X->ey} {fp:X->aj5} {o:bR} {Q:aQ->Prop}
def e6.own {S:aj5} {t:aG} {cs:ey} {f:aj5} {v:Value} {next:Act->bC->Prop} {u:b5->Act->bC->Prop} (A:o.dst=Y m) (F:C.ok m) (l:cK C st a.tmps w I rt fp) (J:∀r k w',Q r->k.defers=a.defers->gM C r k.tmps w'->next k w') (D:m∈S\/aq st.h m=bo) (M:(bN a.eval o).run E.P w=.ok (.value v) w') (c:hz w w') (N:v=c0 t.1 cs) (L:aU (be I C.B) w' t.1 cs t.2 f) (G:f.Nodup) (i:∀b∈f,(w.heap.size<=b/\b<w'.heap.size)\/∃q∈S,∃R,aq st.h q=Y R/\b∈fp q) (K:Q ⟨(m,.ref m [])::akm S [] st.g,(m,t)::del S st.h⟩):o.wp E.P a w next u:=by
 have j:=l.eB (nJ.one (st:=st) (C:=C) (rt:=rt) (w':=w') (I':=I) (S:=S) (d:=m) (t:=t) (cs:=cs) (f:=f) D c.size c.os c.tape c.output (λb i _=>c.heap b i) (λb i=>(anL (c.heap b i)).2) (λ_ e=>e) (λ_ e=>.inl e) L G (λb z=>by
  rcases i b z with⟨x,y⟩|⟨p,H,s,j,n⟩
  ·exact⟨λe=>by have:=l.ib b (.inl e);omega,y,.inl x⟩
  obtain⟨ay,T,O,U⟩:=(l.tree p s j).2.2 b n;exact⟨ay,jh O c.size,.inr ⟨p,H,s,j,n⟩⟩))
 unfold ake;rw[M];show next (a.put o.dst v) w'
 rw[A];refine J _ _ _ K bn ⟨_,_,_,j.put F (av:=.ref m []) ?_⟩;rw[N];refine .ref (t:=t) (loc:=bo) (by rw[kR,di,aw bn];rfl) ?_;rw[Fu];exact alF
def yr (e:bm (X×aG)) (a:ah):ak->bv (aG×aj5)
 |.val d b=>bif bb a d then Y (⟨d,b⟩,[]) else bo
 |.dh f=>match i9 a f.cells.toList with
  |some b=>Y (⟨a,b⟩,[])
  |none=>bo
 |.ref id []=>match aq e id with
  |some c=>bif bb a c.1 then Y (c,[id]) else bo
  |none=>bo
 |_=>bo
theorem Rl (l:∀id t,aq e id=Y t->aU T w t.1 (rt id) t.2 (fp id)) {a:ah} (i:fo p a c) (h:cP T w e rt fp d R) {t:aG} {ids:aj5} (b:yr e a d=Y (t,ids)):aU T w t.1 R.cells.toList t.2 (ids.map fp).flatten/\t.1.size=a.size/\∀id∈ids,∃o,aq e id=Y o:=by
 unfold yr at b;split at b
 ·rename_i r q;cases f:bb a r with
  |false=>grind
  |true=>
   rw[f] at b;cases b;cases h with|val g=>
   rw[oT (i.lay f) g.len g.one];grind [anP]
 ·rename_i u;split at b
  ·rename_i q s;cases b;cases h;grind [qp]
  grind
 ·rename_i id;split at b
  ·rename_i n j;cases f:bb a n.1 with
   |false=>grind
   |true=>
    rw[f] at b;cases b;cases h with|ref k m=>
    rw[j] at k;cases k;obtain⟨rfl,rfl,rfl⟩:=akx.1 m;have g:=l id _ j;rw[oT (i.lay f) g.len g.one];grind [akc,anP]
  grind
 grind
def np (e:bm (X×aG)) (d:bM->ak) (g:bm (X×bM)):ah->X->bv (aG×aj5)
 |.pr a h,f=>
  match(match ml g f with
   |none=>match mw a with
    |some i=>Y ((⟨a,i⟩:aG),([]:aj5))
    |none=>bo
   |some b=>yr e a (d b)),np e d g h (f+1) with
  |some b,Y c=>Y (⟨.pr b.1.1 c.1.1,(b.1.2,c.1.2)⟩,b.2++c.2)
  |_,_=>bo
 |.nil,_=>Y (⟨.nil,()⟩,[])
 |_,_=>bo
theorem PV {p:bY} {g:eE->X->Prop} {b:bm (X×aG)} (z:∀id t,aq b id=Y t->aU g w t.1 (rt id) t.2 (fp id)) {m:bM->ak} {h:bM->Value} (y:∀c,cP g w b rt fp (m c) (h c)) {parts:bm (X×bM)} {cells:ey}:∀{u:ah} {n:X} {r:bm akr} {off:X} {zs:ey} {t:aG} {ids:aj5},iV p u r off zs->np b m parts u n=Y (t,ids)->cells.length=off+u.size->(∀d k e,fJ u d=Y (k,e)->(∀c,ml parts (n+d)=Y c->(h c).cells.size=e.size/\(cells.drop (off+fD u d)).take e.size=(h c).cells.toList)/\(ml parts (n+d)=bo->(cells.drop (off+fD u d)).take e.size=(zs.drop (fD u d)).take e.size))->aU g w t.1 (cells.drop off) t.2 (ids.map fp).flatten/\t.1.size=u.size/\∀id∈ids,∃u,aq b id=Y u
 |.pr a q,n,E::O,off,zs,t,ids,o,f,A,i=>by
  simp only[np] at f;split at f
  case h_2=>cases f
  rename_i c l j C;cases f;obtain⟨F,s,G,⟨K,R,ay,M,N⟩,v⟩:=o;have x:=i 0 _ a bn;simp only[l4,fD,m5] at x;have H:aU g w c.1.1 ((cells.drop off).take a.size) c.1.2 (c.2.map fp).flatten/\c.1.1.size=a.size/\∀id∈c.2,∃u,aq b id=Y u:=by
   split at j
   ·rename_i J;split at j
    ·rename_i S D;cases j;obtain⟨L,T,P,Q,_,aS⟩:=wH s D;grind
    grind
   grind [Rl]
  have I:=PV z y (parts:=parts) (cells:=cells) (u:=q) (n:=n+1) (off:=off+a.size) (zs:=zs.drop a.size) (t:=l.1) (ids:=l.2) v C (by grind [aku]) (by
   intro d k e B;have:=i (d+1) (.snd::k) e (by simp[fJ,B]);grind [al5,fD])
  refine⟨⟨(c.2.map fp).flatten,(l.2.map fp).flatten,ac,?_,?_⟩,by grind [aku],?_⟩
  ·grind
  ·simp_all
  grind
 |.nil,n,[],off,zs,t,ids,o,f,A,i=>by cases f;exact⟨⟨bn,by grind [List.drop_eq_nil_iff,aku]⟩,bn,ac⟩
 |.pr _ _,_,[],_,_,_,_,b,_,_,_=>b.elim
 |.nil,_,_::_,_,_,_,_,b,_,_,_=>b.elim
 |.int _,_,_,_,_,_,_,b,_,_,_=>by cases b
 |.bool,_,_,_,_,_,_,b,_,_,_=>by cases b
 |.str,_,_,_,_,_,_,b,_,_,_=>by cases b
 |.a8 _ _,_,_,_,_,_,_,b,_,_,_=>by cases b
 |.osl _,_,_,_,_,_,_,b,_,_,_=>by cases b
 |.ptr _ _,_,_,_,_,_,_,b,_,_,_=>by cases b
 |.optr _,_,_,_,_,_,_,b,_,_,_=>by cases b
 |.st _,_,_,_,_,_,_,b,_,_,_=>by cases b
 |.eF,_,_,_,_,_,_,b,_,_,_=>by cases b
theorem PW {z:bY} {h:eE->X->Prop} {b:bm (X×aG)} (l:∀id t,aq b id=Y t->aU h w t.1 (rt id) t.2 (fp id)) {j:bM->ak} {i:bM->Value} (k:∀e,cP h w b rt fp (j e) (i e)) {q:bm (X×bM)}:∀{u:ah} {n:X} {B:bm akr} {p:X} {y:ey} {t:aG} {ids:aj5},iV z u B p y->np b j q u n=Y (t,ids)->∀d s g,fJ u d=Y (s,g)->∀e,ml q (n+d)=Y e->(i e).cells.size=g.size
 |.pr a A,n,I::P,p,y,t,ids,E,f,d,s,g,c,e,m=>by
  simp only[np] at f;split at f
  case h_2=>cases f
  rename_i v x o G;obtain⟨J,C,K,⟨L,Q,ay,N,O⟩,D⟩:=E;cases d with
  |zero=>
   simp only[fJ,eZ,iy] at c;obtain⟨_,rfl⟩:=c;rw[l4] at m;rw[m] at o;obtain⟨H,M,_⟩:=Rl (t:=v.1) (ids:=v.2) l C (k e) o;have:=H.len;grind
  |succ d=>
   simp only[fJ] at c;split at c
   ·rename_i r F;simp only[eZ,iy] at c;obtain⟨_,rfl⟩:=c;exact PW l k (u:=A) (n:=n+1) (t:=x.1) (ids:=x.2) D G d r.1 r.2 F e (by rwa[(aa:n+1+d=n+(d+1))])
   grind
 |.pr _ _,_,[],_,_,_,_,b,_,_,_,_,_,_,_=>b.elim
 |.nil,_,_,_,_,_,_,_,_,_,_,_,c,_,_=>by cases c
 |.int _,_,_,_,_,_,_,b,_,_,_,_,_,_,_=>by cases b
 |.bool,_,_,_,_,_,_,b,_,_,_,_,_,_,_=>by cases b
 |.str,_,_,_,_,_,_,b,_,_,_,_,_,_,_=>by cases b
 |.a8 _ _,_,_,_,_,_,_,b,_,_,_,_,_,_,_=>by cases b
 |.osl _,_,_,_,_,_,_,b,_,_,_,_,_,_,_=>by cases b
 |.ptr _ _,_,_,_,_,_,_,b,_,_,_,_,_,_,_=>by cases b
 |.optr _,_,_,_,_,_,_,b,_,_,_,_,_,_,_=>by cases b
 |.st _,_,_,_,_,_,_,b,_,_,_,_,_,_,_=>by cases b
 |.eF,_,_,_,_,_,_,b,_,_,_,_,_,_,_=>by cases b
theorem VL (av:o.op=.build c s) {J:ah} (D:lL E.tt c=Y J) (ds:bb J k=bq\/J=k) (R:mO s.toList 0=bq) (A:∀d∈s.toList,b9 d.1 (gL k)=bq) (O:∀e l b,fJ k e=Y (l,b)->∀f,ml s.toList e=Y f->(a.eval f).cells.size=b.size):∃h g p,iV E.P k h 0 g/\(bN a.eval o).run E.P w=.ok (.value (.agg p)) w/\p.toList.length=k.size/\(∀e l b,fJ k e=Y (l,b)->(∀f,ml s.toList (0+e)=Y f->(a.eval f).cells.size=b.size/\(p.toList.drop (0+fD k e)).take b.size=(a.eval f).cells.toList)/\(ml s.toList (0+e)=bo->(p.toList.drop (0+fD k e)).take b.size=(g.drop (fD k e)).take b.size)):=by
 obtain⟨m,h,g,S,c1,T,U,q,c2⟩:∃m h g,E.P.info? c=some m/\m.size=k.size/\m.zero=some (.agg g)/\E.P.underlying c=some (.struct h)/\iV E.P k h.toList 0 g.toList/\g.size=k.size:=by
  unfold lL at D;split at D
  ·rename_i ek ad;cases D;obtain⟨_,m,h,g,ay,d1,_,d2,d3,d4,d5⟩:=E.ok c _ ad;grind [anP,iV.lay]
  grind
 have F:=run_places (P:=E.P) w k h.toList 0 g.toList q;simp only[mC] at F;generalize dl:((bJ (gL k)).map λn=>(fD k n,match fJ k n with|some d=>d.2.size|none=>0))=H at F;have v:∀n l b,fJ k n=Y (l,b)->n<gL k->H.toArray[n]?=Y (fD k n,b.size):=(by grind);obtain⟨p,ce,d6,ci,aS⟩:=AO (λm=>H.toArray[m]?) (s.toList.map λd=>(d.1,a.eval d.2)) g (by
  intro d x;obtain⟨j,B,rfl⟩:=eQ.1 x;have t:j.1<gL k:=gX (A j B);obtain⟨l,b,i⟩:=r0 q j.1 t;refine⟨_,_,v _ _ _ i t,O _ _ _ i j.2 ?_,by simp_all [xV]⟩;grind [I8]) (by
  rw[ou];refine(I9 R).imp_of_mem ?_;intro d I x a4 t bx co d0 d7 ao L;have z:d.1<gL k:=gX (A d x);have Q:I.1<gL k:=gX (A I a4);obtain⟨cs,cv,r⟩:=r0 q d.1 z;obtain⟨d8,d9,N⟩:=r0 q I.1 Q;rw[v _ _ _ r z] at ao;rw[v _ _ _ N Q] at L;cases ao;cases L;exact .inl (vB r N t))
 have bl:p.toList.length=k.size:=(by grind);refine⟨h.toList,g.toList,p,q,?_,bl,?_⟩
 ·have a3:(amO (λf=>(f.fst,a.eval f.snd)) s).toList=s.toList.map λd=>(d.1,a.eval d.2):=ac;have a0:(h.mapM λM=>do alj (M.offset,<-akT M.type):Sem (bT ej)).run E.P w=.ok H.toArray w:=by
   rw[anx,Sem.run_map,F];rfl
  have G:(akl c).run E.P w=.ok (.agg g) w:=(by simp[akl,akA,S,T]);simp only[bN,av,Instr.build,bW,G,b7 U,b1,a0,a3,Value.cells,ce];rfl
 intro e l b i;have am:e<gL k:=IK i;simp only[mC];have dg:=xV i;refine⟨λf C=>?_,λC=>?_⟩
 ·have an:=A5 C;have G:=O e l b i f C;refine⟨G,?_⟩;apply ij;intro y;rcases cT y b.size with u|u
  ·obtain⟨K,bs⟩:∃K,(a.eval f).cells[y]?=some K:=⟨_,B7 aa⟩;have:=aS (e,a.eval f) (eQ.2 ⟨(e,f),an,bn⟩) _ _ (v _ _ _ i am) y K bs;grind
  grind
 apply ij;intro y;rcases cT y b.size with u|u
 ·rw[sB u,sB u,p1,p1];simp only[B8];refine ci _ ?_;intro d x bx co ao;obtain⟨j,B,rfl⟩:=eQ.1 x;have ap:=Jy C j B;have z:j.1<gL k:=gX (A j B);obtain⟨cs,cv,r⟩:=r0 q j.1 z;rw[v _ _ _ r z] at ao;cases ao;rcases Nat.lt_or_gt_of_ne ap with t|V
  ·have:=vB r i t;omega
  have:=vB i r V;omega
 grind
theorem cK.IN {t:ev} (d:cK C st t w I rt fp):∀{a:aj5},a.Nodup->(∀id∈a,∃b,aq st.h id=Y b)->(a.map fp).flatten.Nodup
 |[],_,_=>by simp
 |i::a,r,e=>by obtain⟨k,l⟩:=jS.1 r;obtain⟨b,f⟩:=e i ac;simp only[gW,l0];refine jt.2 ⟨(d.tree i b f).2.1,cK.IN d l (λid x=>e id (by grind)),λj m v o c=>?_⟩;subst c;obtain⟨y,q,n⟩:=l1.1 o;obtain⟨g,p,rfl⟩:=eQ.1 q;obtain⟨u,s⟩:=e g (by grind);exact d.dis i g b u f s (λc=>k (c▸p)) j m n
theorem Zv (a:m∈(f.map fp).flatten):∃id∈f,m∈fp id:=by grind
def sW {k:Type} (tt:bm (bF×ah)) (m:bm (X×ah)) (e:bm (X×aG)) (h:bM->ak) (a:X) (l:bF) (c:bm (X×bM)) (g:cH->bv k):bv k:=
 match lL tt l with
 |none=>bo
 |some f=>match aq m a with
  |some (.st j)=>bif bb f j&&(mO c 0&&c.all (λi=>b9 i.1 (gL j))) then match aq e a,np e h c j 0 with
   |none,Y (b,d)=>bif jJ d then g ⟨Y (a,.ref a []),d,[],[(a,⟨.st b.1,b.2⟩)]⟩ else bo
   |_,_=>bo
   else bo
  |_=>bif mO c 0&&c.all (λi=>b9 i.1 (gL f)) then match qI h c f 0 with
   |some b=>g ⟨Y (a,.val (.st b.1) b.2),[],[],[]⟩
   |none=>match aq e a,np e h c f 0 with
    |none,Y (b,d)=>bif jJ d then g ⟨Y (a,.ref a []),d,[],[(a,⟨.st b.1,b.2⟩)]⟩ else bo
    |_,_=>bo
   else bo
theorem MV {F:b} {u:cH->bv b} (U:o.op=.build c s) (O:o.dst=Y m) (P:C.ok m) {r:ah} (y:lL E.tt c=Y r) (D:bb r k=bq\/r=k) (q:(mO s.toList 0&&s.toList.all (λp=>b9 p.1 (gL k)))=bq) (i:(match aq st.h m,np st.h (aV st.g) s.toList k 0 with
  |none,Y (d,e)=>bif jJ e then u ⟨Y (m,.ref m []),e,[],[(m,⟨.st d.1,d.2⟩)]⟩ else bo
  |_,_=>bo)=Y F)
 (V:∀v,u v=Y F->Q (v.app st)):e6 E C o st Q:=by
 split at i
 case h_2=>cases i
 rename_i d e R n;cases A:jJ e with
 |false=>grind
 |true=>
 rw[A] at i;simp only[bk,g0] at q;obtain⟨H,J⟩:=q;rintro a w ⟨I,rt,fp,j⟩ next a3 T
 have z:∀id d,aq st.h id=Y d->aU (be I C.B) w d.1 (rt id) d.2 (fp id):=λid d n=>(j.tree id d n).1;obtain⟨K,av,G,M,ad,bx,N⟩:=VL (a:=a) (w:=w) U y D H J (by
  obtain⟨K,av,_,p⟩:=lL.ok y;intro an ap a0 am l bs;exact PW z (λl=>j.aV l) (D.elim (λi=>iV.lay i p) (λi=>i▸p)) n an ap a0 am l (by rwa[mC]))
 obtain⟨x,bl,L⟩:=PV z (λl=>j.aV l) (cells:=G.toList) M n aa N;rw[m5] at x;refine e6.own (S:=e) (t:=⟨.st d.1,d.2⟩) (cs:=G.toList) (f:=(e.map fp).flatten) O P j T (.inr R) ad (hz.refl w) rfl x (j.IN (jJ.ok A) L) (λa4 q=>?_) ?_
 ·grind
 have:=V _ i;rw[show(cH.mk (Y (m,.ref m [])) e [] [(m,⟨.st d.1,d.2⟩)]).app st=⟨(m,.ref m [])::akm e [] st.g,(m,⟨.st d.1,d.2⟩)::del e st.h⟩ by
  show aQ.mk ((m,_)::nX e [] st.g) ([_]++rI e st.h)=_;rw[tz,xQ];rfl] at this
 omega
theorem VB {t:b} {q:cH->bv b} (k:o.op=.build c s) (i:o.dst=Y m) (j:C.ok m) (a:sW E.tt l st.h (aV st.g) m c s.toList q=Y t) (n:∀r,q r=Y t->Q (r.app st)):e6 E C o st Q:=by
 unfold sW at a;split at a
 ·cases a
 rename_i u e;split at a
 ·rename_i v x;cases d:(bb u v&&(mO s.toList 0&&s.toList.all (λp=>b9 p.1 (gL v)))) with
  |false=>grind
  |true=>
  rw[d] at a;simp only[bG] at a;have f:=d;rw[bk] at f;exact MV k i j e (.inl f.1) f.2 a n
 cases d:(mO s.toList 0&&s.toList.all (λp=>b9 p.1 (gL u))) with
 |false=>grind
 |true=>
 rw[d] at a;simp only[bG] at a;split at a
 ·rename_i y w;refine akW (an:=[]) i j ?_;rw[k];simp only[g5,zD,e,d,bG,w];exact n _ a
 exact MV k i j e (.inr bn) d a n
def uR {i:Type} (tt:bm (bF×ah)) (f:bm (X×ah)) (g:bm (X×aG)) (a:X) (j:bF) (d:ak) (b:cH->bv i):bv i:=
 match aq tt j,aq g a with
 |some h,bo=>match d with
  |.val e d=>bif bb h e then match aq f a with
   |some (.ptr .bg _)=>b ⟨Y (a,.val (.ptr .bg e) (Y d)),[],[],[]⟩
   |_=>b ⟨Y (a,.ref a []),[],[],[(a,⟨.optr e,d⟩)]⟩
   else bo
  |.ref id []=>match aq g id with
   |some c=>bif bb h c.1 then match aq f a with
    |some (.ptr .bg _)=>bif o0 c.1 then b ⟨Y (a,.hG (.ref id [])),[],[],[]⟩ else bo
    |_=>b ⟨Y (a,.ref a []),[id],[],[(a,⟨.optr c.1,c.2⟩)]⟩
    else bo
   |none=>bo
  |_=>bo
 |_,_=>bo
theorem VE {ds:b} {ci:cH->bv b} (O:o.op=.box c n) (M:o.dst=Y m) (N:C.ok m) (e:uR E.tt l st.h m c (aV st.g n) ci=Y ds) (P:∀c1,ci c1=Y ds->Q (c1.app st)):e6 E C o st Q:=by
 unfold uR at e;split at e
 case h_2=>cases e
 rename_i r L dg;split at e
 ·rename_i ad d1 z;cases i:bb r ad with
  |false=>grind
  |true=>
  rw[i] at e;simp only[bG] at e;split at e
  ·rintro a w ⟨I,rt,fp,j⟩ next co F
   have p:=j.aV n;rw[z] at p;have A:=(E.ok c r L).lay i;generalize H:a.eval n=K at p;cases p with|val U=>
   rename_i V;have u:∀s d,be I C.B s d->c8 w (w.alloc (.cells V.toArray c)) d:=λs d i=>.of_heap ((akX w _).heap d (j.ib d (nm i)));have bs:Yields E C st a w I rt fp o (λy J=>Q ⟨(m,y)::st.g,J++st.h⟩):=by
    refine⟨.pointer (Y ⟨w.heap.size,0,bo⟩),w.alloc (.cells V.toArray c),λd=>I d\/d=w.heap.size,λ_=>[],λ_=>[],.val (.ptr .bg ad) (Y d1),[],?_,akX w _,λ_ e=>.inl e,?_,.nil,?_,P _ e⟩
    ·simp[bN,O,H,amN,newVar,akN,oT A U.len U.one]
    ·rintro d (e|rfl)
     ·grind
     simp_all
    refine .val (τ:=.ptr .bg ad) (x:=Y d1) (cs:=[.pointer (Y ⟨w.heap.size,0,bo⟩)]) ⟨bn,w.heap.size,0,V,bn,.inr bn,U.len,anQ (λd5 K d3=>by grind),?_⟩;refine U.mono (λs d i=>⟨?_,u s d i⟩) ac;cases s
    ·exact .inl i
    exact i.imp .inl (λe=>e)
   exact bs.wp j M N (λy J am w' a3 ap a4=>F _ am w' a3 ap a4)
  refine akW (an:=[]) M N ?_;rw[O];simp only[g5,zE,L,dg,z,i,bG];exact P _ e
 ·rename_i id z;split at e
  case h_2=>cases e
  rename_i k R;cases i:bb r k.1 with
  |false=>grind
  |true=>
  rw[i] at e;simp only[bG] at e;split at e
  ·cases bl:o0 k.1 with
   |false=>rw[bl] at e;cases e
   |true=>
   rw[bl,bG] at e;rintro a w ⟨I,rt,fp,j⟩ next co F
   have p:=j.aV n;rw[z] at p;obtain⟨q,d0,ce⟩:=j.tree id k R;have A:=(E.ok c r L).lay i;generalize H:a.eval n=K at p;have d4:=p;cases p with|ref G a0=>
   rw[R] at G;cases G;obtain⟨rfl,rfl,rfl⟩:=akx.1 a0;obtain⟨ao,d2⟩:=pt.one bl;have dl:=q.len;rw[ao] at dl;obtain⟨cv,c2⟩:=p4.1 dl;have u:∀d,d<w.heap.size->c8 w (w.alloc (.cells (rt id).toArray c)) d:=λd i=>.of_heap ((akX w _).heap d i);have bs:Yields E C st a w I rt fp o (λy J=>Q ⟨(m,y)::st.g,J++st.h⟩):=by
    refine⟨.pointer (Y ⟨w.heap.size,0,bo⟩),w.alloc (.cells (rt id).toArray c),λd=>I d\/d=w.heap.size,rt,fp,.hG (.ref id []),[],?_,akX w _,λ_ e=>.inl e,?_,.nil,?_,P _ e⟩
    ·simp[bN,O,H,amN,newVar,akN,oT A q.len q.one]
    ·rintro d (e|rfl)
     ·exact .inl e
     exact .inr ⟨bd _,ac⟩
    have av:cP (be (λd=>I d\/d=w.heap.size) C.B) (w.alloc (.cells (rt id).toArray c)) ([]++st.h) (fk [] rt rt) (fk [] fp fp) (.ref id []) (c0 k.1 (rt id)):=by
     refine d4.mono (λs d D=>⟨?_,u d (j.ib d (nm D))⟩) (λbx r T=>⟨(j.tree bx r T).1,λd i=>u d ((j.tree bx r T).2.2 d i).2.2.1⟩) (λbx r T=>⟨T,bn,bn⟩);cases s
     ·exact .inl D
     exact D.imp .inl (λe=>e)
    rw[c2] at av|-;rw[d2] at av;refine .hG (v:=cv) (.inr bn) ?_ (q.one cv (by rw[c2];simp)) av;rw[World.cell?_alloc_new];rfl
   exact bs.wp j M N (λy J am w' a3 ap a4=>F _ am w' a3 ap a4)
  rintro a w ⟨I,rt,fp,j⟩ next co F
  have p:=j.aV n;rw[z] at p;obtain⟨q,d0,ce⟩:=j.tree id k R;have A:=(E.ok c r L).lay i;generalize H:a.eval n=K at p;cases p with|ref G a0=>
  rw[R] at G;cases G;obtain⟨rfl,rfl,rfl⟩:=akx.1 a0;have u:∀d,d<w.heap.size->c8 w (w.alloc (.cells (rt id).toArray c)) d:=λd i=>.of_heap ((akX w _).heap d i);have d6:aU (be I C.B) (w.alloc (.cells (rt id).toArray c)) k.1 (rt id) k.2 (fp id):=q.mono (λs d i=>⟨i,u d (j.ib d (nm i))⟩) (λd i=>u d (ce d i).2.2.1);refine e6.own (S:=[id]) (t:=⟨.optr k.1,k.2⟩) (cs:=[.pointer (Y ⟨w.heap.size,0,bo⟩)]) (f:=w.heap.size::fp id) (v:=.pointer (Y ⟨w.heap.size,0,bo⟩)) (w':=w.alloc (.cells (rt id).toArray c)) M N j F (.inr dg) ?_ (akX w _) rfl ⟨w.heap.size,0,fp id,rt id,bn,bn,q.len,anQ (λd5 K d3=>by grind),anR (by simp[q.len]),d6⟩ (jS.2 ⟨λD=>wV _ (ce _ D).2.2.1,d0⟩) ?_ ?_
  ·simp[bN,O,H,amN,newVar,akN,oT A q.len q.one]
  ·intro d i;rcases fC.1 i with rfl|i
   ·simp_all
   grind
  have:=P _ e;rw[show(cH.mk (Y (m,.ref m [])) [id] [] [(m,⟨.optr k.1,k.2⟩)]).app st=⟨(m,.ref m [])::akm [id] [] st.g,(m,⟨.optr k.1,k.2⟩)::del [id] st.h⟩ from rfl] at this;omega
 grind
def JX (a:ah) (b:ak):bv a.den:=match a with
 |.osl _=>match b with
  |.dh (.slice bo 0 0)=>Y []
  |_=>bo
 |_=>bo
def ZX {w:bC} {rt:X->ey} {fp:X->aj5} (c:cP T w e rt fp d R) {b:k.den} (a:JX k d=Y b):aU T w k R.cells.toList b []:=by
 unfold JX at a;split at a
 ·split at a
  ·cases a;cases c;exact⟨bo,0,bn,.inl ⟨bn,bn,bn,bn⟩⟩
  cases a
 cases a
def uW (c:bm (X×aG)) (b:ah) (x:ak):bv (b.den×aj5):=
 match x with
 |.ref id []=>match aq c id with
  |some d=>match h7 b d.2 with
   |some a=>Y (a,[id])
   |none=>bo
  |none=>bo
 |x=>match coe b x with
  |some a=>Y (a,[])
  |none=>(JX b x).map λa=>(a,[])
def uX (b:bm (X×aG)) (a:ah):bm ak->bv (bm a.den×es)
 |[]=>Y ([],[])
 |x::e=>match uW b a x,uX b a e with
  |some d,Y c=>Y (d.1::c.1,d.2::c.2)
  |_,_=>bo
theorem V6 (o:∀id k,aq e id=Y k->aU T w k.1 (rt id) k.2 (fp id)) (m:fo E.P k c) (h:cP T w e rt fp d R) {j:k.den} (a:uW e k d=Y (j,f)):aU T w k R.cells.toList j (f.map fp).flatten/\∀id∈f,∃s,aq e id=Y s:=by
 unfold uW at a;split at a
 ·rename_i id;split at a
  case h_2=>cases a
  rename_i t b;split at a
  case h_2=>cases a
  rename_i u q;cases a;obtain⟨x,d⟩:=t;have n:=kq q;cases n;cases h with|ref g p=>
  rw[b] at g;cases g;obtain⟨rfl,rfl,rfl⟩:=akx.1 p;have i:=o id _ b;rw[oT m i.len i.one];grind
 split at a
 ·grind [HO]
 obtain⟨v,r,l⟩:=fG.1 a;cases l;exact⟨ZX h r,ac⟩
theorem Nm {e:bm (X×aG)} {c:ah}:∀{b:bm ak} {xs:bm c.den} {is:es},uX e c b=Y (xs,is)->xs.length=b.length/\is.length=b.length/\∀(d:X) (h:c.den),xs[d]?=Y h->∃(y:ak) (f:aj5),b[d]?=Y y/\is[d]?=Y f/\uW e c y=Y (h,f)
 |[],xs,is,a=>by cases a;grind
 |y::b,xs,is,a=>by
  simp only[uX] at a;split at a
  ·rename_i n g m i;cases a;obtain⟨j,k,l⟩:=Nm (xs:=g.1) (is:=g.2) i;grind
  grind
def sY {i:Type} (tt:bm (bF×ah)) (k:bm (X×ah)) (f:bm (X×aG)) (e:bM->ak) (a:X) (j:bF) (g:X) (c:bm (X×bM)) (d:cH->bv i):bv i:=
 match gZ tt j,aq f a with
 |some h,bo=>
  match(match aq k a with|some (.osl t)=>t|_=>h) with
  |t=>bif bb h t&&b2 t.size 2000&&b2 g 1000&&wo c 0&&bH c.length g then
   match zH t (c.map λb=>e b.2) with
   |some l=>d ⟨Y (a,.ref a []),[],[],[(a,⟨.osl t,l⟩)]⟩
   |none=>match uX f t (c.map λb=>e b.2) with
    |some b=>bif jJ b.2.flatten then d ⟨Y (a,.ref a []),b.2.flatten,[],[(a,⟨.osl t,b.1⟩)]⟩ else bo
    |none=>bo
  else bo
 |_,_=>bo
theorem VI {d7:b} {bs:cH->bv b} {q:X} (dl:o.op=.buildSlice c m s) (cv:o.dst=Y q) (c1:C.ok q) (j:sY E.tt l st.h (aV st.g) q c m s.toList bs=Y d7) (L:∀O,bs O=Y d7->Q (O.app st)):e6 E C o st Q:=by
 unfold sY at j;split at j
 case h_2=>cases j
 rename_i r co c2;generalize x:(match aq l q with|some (.osl d)=>d|_=>r)=d at j;simp only at j;cases i:(bb r d&&b2 d.size 2000&&b2 m 1000&&wo s.toList 0&&bH s.toList.length m) with
 |false=>grind
 |true=>
 rw[i] at j;simp only[bG] at j;split at j
 ·rename_i z d3;refine akW (an:=l) cv c1 ?_;rw[dl];simp only[g5,xl,co,c2];cases H:aq l q with
  |none=>
   rw[H] at x;simp only at x;subst x;simp only[i,bG,d3];exact L _ j
  |some k=>
   rw[H] at x;cases k<;>(simp only at x;subst x;simp only[i,bG,d3];exact L _ j)
 split at j
 case h_2=>cases j
 rename_i k d0;obtain⟨z,p⟩:=k;cases av:jJ p.flatten with
 |false=>grind
 |true=>
 rw[av] at j;rintro a w ⟨I,rt,fp,D⟩ next gc f4
 have fs:∀id d,aq st.h id=Y d->aU (be I C.B) w d.1 (rt id) d.2 (fp id):=λid d x=>(D.tree id d x).1;simp only[bk] at i;obtain⟨⟨⟨⟨el,V⟩,ad⟩,N⟩,bx⟩:=i;have V:=gX V;have ad:=gX ad;have bx:s.toList.length=m:=fA bx;obtain⟨d5,U,_,ex,fl⟩:=gZ.ok co;have K:=fl.lay el;obtain⟨a4,ge,d6,_⟩:=K.info;have hc:=K.pos;obtain⟨em,ce,ci⟩:=Nm d0;simp only[eP] at em ce;have f7:z.length=m:=aa;have gs:m*d.size<=16777216:=(by have:m*d.size<=1000*2000:=m8 ad V;omega);have am:∀(e:X) (k:X×bM),s.toList[e]?=Y k->∃(y:d.den) (u:aj5),z[e]?=Y y/\p[e]?=Y u/\aU (be I C.B) w d (a.eval k.2).cells.toList y (u.map fp).flatten/\∀id∈u,∃r,aq st.h id=Y r:=(by intro e k F;have f0:e<z.length:=(by grind);obtain⟨i3,u,ao,gf,R⟩:=ci e z[e] ac;rw[jQ,F] at ao;simp only[ji,eZ] at ao;subst ao;obtain⟨hs,hv⟩:=V6 fs K (D.aV k.2) R;grind);have ap:∀id∈p.flatten,∃r,aq st.h id=Y r:=by
  intro id T;obtain⟨M,H,gl⟩:=l1.1 T;obtain⟨e,F,rfl⟩:=g1.1 H;have G:s.toList[e]?=Y (s.toList[e]'(by omega)):=bi _
  grind
 obtain⟨d4,fz,fT⟩:∃d9:ev,(m*d.size=0->d9=#[])/\(m*d.size≠0->∃J,(akl U).run E.P w=.ok J w/\d9=J.cells):=by
  by_cases A:m*d.size=0
  ·simp_all
  obtain⟨J,_,f9⟩:=fo.I3 K;exact⟨J.cells,λj=>absurd j A,λ_=>⟨J,by simp[akl,akA,d6.info,f9 a4 d6.info],bn⟩⟩
 obtain⟨bl,d8,is,ix,aS⟩:=AO (λa4=>Y (a4*d.size,d.size)) (s.toList.map λk=>(k.1,a.eval k.2)) ((Array.range (m*d.size)).map (d4[· %d4.size]!)) (by
  intro k L;obtain⟨io,f5,rfl⟩:=eQ.1 L;obtain⟨e,F,rfl⟩:=g1.1 f5;have G:s.toList[e]?=Y s.toList[e]:=ac;obtain⟨y,_,_,_,a3,_⟩:=am e _ G;have O:=sa N e _ G;have:(e+1)*d.size<=m*d.size:=iY _ aa;rw[l3,mB] at this;refine⟨_,_,bn,by have:=a3.len;omega,?_⟩;grind) (by
  rw[ik];intro e M F H f0 ic i0 ii i1 ao R;simp only[m6,eZ,iy] at ao R;simp only[eP] at F H;have eq:=sa N e s.toList[e] ac;have f2:=sa N M s.toList[M] ac;obtain⟨rfl,rfl⟩:=ao;obtain⟨rfl,rfl⟩:=R;left;rw[eq,f2];have:(0+e+1)*d.size<=(0+M)*d.size:=iY _ aa;grind)
 have hi:bl.size=m*d.size:=(by grind);have fn:∀n,n<w.heap.size->c8 w (w.alloc (.cells bl U)) n:=λn i=>.of_heap ((akX w _).heap n i);have fr:(p.map λu=>(u.map fp).flatten).flatten=(p.flatten.map fp).flatten:=by
  clear am ap ci av j d0 ce
  induction p with
  |nil=>rfl
  |cons y M hr=>grind
 have f1:∀n∈(p.flatten.map fp).flatten,n<w.heap.size/\∃id∈p.flatten,∃r,aq st.h id=Y r/\n∈fp id:=(by intro n i;obtain⟨id,T,i⟩:=Zv i;obtain⟨r,a0⟩:=ap id T;exact⟨((D.tree id r a0).2.2 n i).2.2.1,id,T,r,a0,i⟩);refine e6.own (S:=p.flatten) (t:=⟨.osl d,z⟩) (cs:=[.slice (Y ⟨w.heap.size,0,bo⟩) m m]) (f:=w.heap.size::(p.flatten.map fp).flatten) (v:=.slice (Y ⟨w.heap.size,0,bo⟩) m m) (w':=w.alloc (.cells bl U)) cv c1 D f4 (.inr c2) ?_ (akX w _) rfl ?_ (jS.2 ⟨λf3=>wV _ (f1 _ f3).1,D.IN (jJ.ok av) ap⟩) ?_ ?_
 ·have f6:=K.sizeOf w;have gt:¬(16777216<m*d.size):=aa;have ds:(amO (λy=>(y.fst,a.eval y.snd)) s).toList=s.toList.map λk=>(k.1,a.eval k.2):=ac;simp only[bN,dl,Instr.buildSlice,bW,b7 ex,b1,f6];rw[au aa];by_cases A:m*d.size=0
  ·rw[aw A];obtain rfl:=fz A;rw[ds];simp only[bW,ct,b1,d8,akN,newObj];rfl
  rw[au A];obtain⟨J,f8,rfl⟩:=fT A;rw[ds];simp only[bW,ct,b1,f8,d8,akN,newObj];rfl
 ·refine⟨Y ⟨w.heap.size,0,bo⟩,m,by rw[f7],.inr ⟨w.heap.size,0,p.map λu=>(u.map fp).flatten,bn,by rw[fr],by grind,(by grind),anR aa,λe y gi a3 dg=>?_⟩⟩;have F:e<m:=(by grind);have G:s.toList[e]?=Y (s.toList[e]'(by omega)):=by simp
  obtain⟨i2,u,d2,ft,d1,a0⟩:=am e _ G;rw[a3] at d2;obtain rfl:=gq d2;rw[jQ,ft] at dg;obtain rfl:=gq dg;refine⟨_,d1.len,anQ (λd5 ek go=>?_),d1.mono (λhw n i=>⟨i,fn n (D.ib n (nm i))⟩) (λn i=>?_)⟩
  ·have:=aS (s.toList[e].1,a.eval s.toList[e].2) (eQ.2 ⟨s.toList[e],cF _,bn⟩) _ _ rfl d5 ek (by grind);have O:=sa N e _ G;grind
  grind
 ·intro n i;rcases fC.1 i with rfl|i
  ·exact .inl ⟨bd _,ac⟩
  grind
 have:=L _ j;rw[show(cH.mk (Y (q,.ref q [])) p.flatten [] [(q,⟨.osl d,z⟩)]).app st=⟨(q,.ref q [])::akm p.flatten [] st.g,(q,⟨.osl d,z⟩)::del p.flatten st.h⟩ by
  show aQ.mk ((q,_)::nX _ [] st.g) ([_]++rI _ st.h)=_;rw[tz,xQ];rfl] at this
 omega
end
end
section
def j0:ah->ah
 |.osl a=>.a8 .bg (j0 a)
 |.st a=>.st (j0 a)
 |.pr b c=>.pr (j0 b) (j0 c)
 |.mp a=>.fB .bg a
 |τ=>τ
def rP:ah->bA
 |.osl a|.st a=>rP a
 |.pr b c=>rP b&&rP c
 |.optr _|.eF=>bp
 |_=>bq
def rR:∀d:ah,(j0 d).den=d.den
 |.osl c=>b6 bm (rR c)
 |.st c=>rR c
 |.pr a b=>by show((j0 a).den×(j0 b).den)=(a.den×b.den);rw[rR a,rR b]
 |.int _|.bool|.str|.a8 _ _|.ptr _ _|.optr _|.nil|.eF|.mp _|.fB _ _|.fn _ _=>rfl
def nU (a:ah) (b:a.den):(j0 a).den:=cast (rR a).symm b
def VX {c:Type} (d:b=c) (e:bm b=bm c) (a:bm b):cast e a=a.map (cast d):=by subst d;show a=a.map (λf=>f);simp
theorem HI {c C d:Type} (e:b=c) (g:C=d) (f:(b×C)=(c×d)) (a:b×C):cast f a=(cast e a.1,cast g a.2):=by grind
def OA (a:ah) (b:bm a.den):(nU (.osl a) b:bm (j0 a).den)=b.map (nU a):=VX (rR a).symm _ b
def XM (a b:ah) (c:a.den×b.den):(nU (.pr a b) c:(j0 a).den×(j0 b).den)=(nU a c.1,nU b c.2):=HI (rR a).symm (rR b).symm _ c
theorem tu:∀b:ah,(j0 b).size=b.size
 |.osl a=>rfl
 |.st a=>tu a
 |.pr c d=>by simp only[j0,aku,tu c,tu d]
 |.int _|.bool|.str|.a8 _ _|.ptr _ _|.optr _|.nil|.eF|.mp _|.fB _ _|.fn _ _=>rfl
theorem wi {z q:eE->X->Prop} {w:bC} (i:∀c b,z c b->q c b):∀{τ:ah} {g:ey} {e:τ.den} {h:aj5},rP τ=bq->aU z w τ g e h->(∀b∈h,q .bg b)->aU q w (j0 τ) g (nU τ e) []
 |.osl f,g,p,h,j,a,k=>by
  obtain⟨A,I,D,a⟩:=a;have E:(nU (.osl f) p:bm (j0 f).den).length=cz (α:=f.den) p:=(by rw[OA];simp);rcases a with⟨rfl,T,rfl,rfl⟩|⟨b,P,B,rfl,rfl,o,v,C,x⟩
  ·refine⟨bn,bo,0,by rw[D,E],by grind,λ_=>rfl,.inl ?_⟩;grind
  refine⟨bn,_,I,by rw[D,E],aa,(λa=>by cases a),?_⟩;refine .inr ⟨b,P,bn,k b ac,λl e n=>?_⟩;rw[OA] at n;have n:(List.map (nU f) p)[l]?=Y e:=n;rw[jQ] at n;obtain⟨Q,F,rfl⟩:=fG.1 n;have U:l<cz (α:=f.den) p:=(hT.1 F).1;have M:B[l]?=Y (B[l]'(by omega)):=bi _
  obtain⟨u,r,s,t⟩:=x l Q _ F M;rw[tu];exact⟨u,r,s,wi i j t (λm y=>k m (gC _ (l1.2 ⟨_,cF _,y⟩)))⟩
 |.st f,g,e,h,j,a,k=>wi (τ:=f) i j a k
 |.pr A b,g,e,h,j,a,k=>by
  simp only[rP,bk] at j;obtain⟨S,f2,rfl,o,v⟩:=a;have R:=XM A b e;refine⟨[],[],bn,?_,?_⟩
  ·rw[tu];have:=wi i j.1 o (λm y=>k m (by grind));grind
  rw[tu];have:=wi i j.2 v (λm y=>k m (by grind));grind
 |.int O,g,e,h,_,a,_=>by obtain rfl:=ak9 (τ:=.int O) rfl a;exact a.mono (λc b d=>⟨i c b d,cp _ _⟩) ac
 |.bool,g,e,h,_,a,_=>by obtain rfl:=ak9 (τ:=.bool) rfl a;exact a.mono (λc b d=>⟨i c b d,cp _ _⟩) ac
 |.str,g,e,h,_,a,_=>by obtain rfl:=ak9 (τ:=.str) rfl a;exact a.mono (λc b d=>⟨i c b d,cp _ _⟩) ac
 |.a8 c f,g,e,h,_,a,_=>by obtain rfl:=ak9 (τ:=.a8 c f) rfl a;exact a.mono (λc b d=>⟨i c b d,cp _ _⟩) ac
 |.ptr c f,g,e,h,_,a,_=>by obtain rfl:=ak9 (τ:=.ptr c f) rfl a;exact a.mono (λc b d=>⟨i c b d,cp _ _⟩) ac
 |.nil,g,e,h,_,a,_=>by obtain rfl:=ak9 (τ:=.nil) rfl a;exact a.mono (λc b d=>⟨i c b d,cp _ _⟩) ac
 |.optr _,_,_,_,j,_,_=>by cases j
 |.fB c f,g,e,h,_,a,_=>by obtain rfl:=ak9 (τ:=.fB c f) rfl a;exact a.mono (λc b d=>⟨i c b d,cp _ _⟩) ac
 |.fn c f,g,e,h,_,a,_=>by obtain rfl:=ak9 (τ:=.fn c f) rfl a;exact a.mono (λc b d=>⟨i c b d,cp _ _⟩) ac
 |.mp f,g,e,h,_,a,k=>by
  cases e with
  |none=>exact⟨bn,a.2⟩
  |some G=>
   obtain⟨b,J,H,o,v,L,C,x,K⟩:=a;refine⟨b,J,H,o,bn,L,k b (by grind),C,x,λl G N=>?_⟩;obtain⟨u,r,s,t⟩:=K l G N;exact⟨u,r,s,t.mono (λc b d=>⟨i c b d,cp _ _⟩) ac⟩
 |.eF,_,_,_,j,_,_=>by cases j
def rQ:aG->ak
 |⟨.optr u,x⟩=>.val (.ptr .bg (j0 u)) (Y (nU u x))
 |⟨a,x⟩=>.val (j0 a) (nU a x)
def IS:ah->bA
 |.optr a=>rP a
 |τ=>rP τ
def gY (c:bm (X×aG)) (b:aj5) (a:ak):ak:=
 match a with
 |.ref id []=>bif eX id b then match aq c id with
  |some d=>rQ d
  |none=>.dead else .ref id []
 |a=>bif a.fx b then .dead else a
theorem mL (c:bm (X×aG)) (b:aj5) (a:ak):(∃id d,a=.ref id []/\id∈b/\aq c id=Y d/\gY c b a=rQ d)\/(gY c b a=.dead/\a.fx b=bq)\/(gY c b a=a/\a.fx b=bp):=by
 have e:∀a:ak,gY c b a=(bif a.fx b then .dead else a)->(∃id d,a=.ref id []/\id∈b/\aq c id=Y d/\gY c b a=rQ d)\/(gY c b a=.dead/\a.fx b=bq)\/(gY c b a=a/\a.fx b=bp):=(by grind);cases a with
 |ref id g=>
  cases g with
  |nil=>
   cases f:eX id b with
   |true=>
    have i:(ak.ref id []).fx b=bq:=(by simp[akh,bS,f]);cases h:aq c id with
    |none=>grind [gY]
    |some d=>exact .inl ⟨id,d,bn,hk.1 f,h,by grind [gY]⟩
   |false=>grind [gY,akh,bS]
  |cons j g=>exact e _ rfl
 |_=>exact e _ rfl
def iR (c:bm (X×aG)) (b:aj5):ak->ak
 |.fj d=>.fj (d.map (gY c b))
 |a=>gY c b a
theorem IR (b:∀a,d≠.fj a):iR e f d=gY e f d:=by
 cases d with
 |fj a=>grind
 |_=>rfl
def ts (a:aj5) (st:aQ):aQ:=⟨st.g.map λb=>(b.1,iR st.h a b.2),del a st.h⟩
def I1 (c:ak->ak) (e:c .dead=.dead):∀(d:bm (X×ak)) (b:X),gt (d.map λf=>(f.1,c f.2)) b=c (gt d b)
 |[],b=>e.symm
 |(g,a)::d,b=>by
  show gt ((g,c a)::_) b=_;rw[jk,jk];split
  ·rfl
  exact I1 c e d b
theorem EZ (a:aj5) (st:aQ) (b:X):gt (ts a st).g b=iR st.h a (gt st.g b):=I1 (iR st.h a) rfl st.g b
def XP (a:aj5) (st:aQ):aV (ts a st).g=λb=>iR st.h a (aV st.g b):=by
 funext b;cases b with
 |tmp c=>exact EZ a st c
 |const d=>cases d<;>rfl
 |func e=>rfl
 |global f=>rfl
theorem GB (b:d.fx f=bp) (a:bm (X×bm a6)):fh f a d=d:=by grind [fh]
def agj {a:bm ak} (b:(ak.fj a).fx f=bp) (e:d∈a):d.fx f=bp:=by unfold akh at b|-;rw[uw] at b|-;intro id h;obtain⟨c,g,rfl⟩:=g1.1 e;exact b id (ak.Be (l:=a) (i:=c) (bi g) h)
theorem Lu (b:d.fx f=bp) (a:bm (X×bm a6)):fK f a d=d:=by
 cases d with
 |fj e=>
  simp only[fK];rw[iJ (λd c=>GB (agj b c) a),anO]
 |_=>exact GB b a
theorem XQ (a:aj5) (b:bm (X×bm a6)) (c:aG):fK a b (rQ c)=fh a b (rQ c):=by unfold rQ;split<;>rfl
def y0 (a e:ak):Prop:=a=.dead\/a=e\/∃b c,a=.fj b/\e=.fj c/\b.length=c.length/\∀(f:X) (d g:ak),b[f]?=Y d->c[f]?=Y g->d=.dead\/d=g
section
variable {C:e4} {st:aQ} {G:ev} {w:bC}
theorem cK.freeze {c:X->aj5} (u:cK C st G w N O c) (T:∀id∈f,∃b,aq st.h id=Y b/\IS b.1=bq):gM C (ts f st) G w:=by
 have J:=u.eB (S:=f) (keep:=[]) (new:=[]) (rtn:=O) (fpn:=c) (w':=w) (I':=λa=>N a\/∃id∈f,∃b,aq st.h id=Y b/\a∈c id) ⟨bd _,bn,bn,bn,λ_ _ _=>rfl,λ_ _=>.refl _ _,λ_ d=>.inl d,λa d=>d.imp id λ⟨id,ad,b,s,l⟩=>
  ⟨((u.tree id b s).2.2 a l).2.2.1,.inr ⟨id,ad,b,s,l⟩⟩,(λ_ _ d=>by cases d),(λ_ _ _ _ d=>by cases d),(λ_ d=>by cases d),(λ_ d=>by cases d)⟩
 refine⟨_,_,_,{J with tmp:=λq=>?_}⟩;rw[EZ];have m:=u.tmp q;have p:=J.tmp q;rw[show gt (aQ.mk (akm f [] st.g) ([]++del f st.h)).g q=fK f [] (gt st.g q) from qD _ _ _ _] at p;generalize gt st.g q=j at m p;generalize G.getD q bV=i at m p;have D:∀(j:ak) (i:Value),cP (be N C.B) w st.h O c j i->cP (be (λa=>N a\/∃id∈f,∃b,aq st.h id=Y b/\a∈c id) C.B) w ([]++del f st.h) (fk [] O O) (fk [] c c) (fh f [] j) i->
  cP (be (λa=>N a\/∃id∈f,∃b,aq st.h id=Y b/\a∈c id) C.B) w ([]++del f st.h) (fk [] O O) (fk [] c c) (gY st.h f j) i:=by
  intro j i m p;rcases mL st.h f j with⟨id,b,k,n,o,R⟩|⟨k,_⟩|⟨k,n⟩
  ·rw[R];rw[k] at m;cases m with|ref s am=>
   rw[o] at s;cases s;obtain⟨rfl,rfl,rfl⟩:=akx.1 am;obtain⟨c1,I,F⟩:=T id n;rw[o] at I;cases I;have E:∀v a,be N C.B v a->be (λa=>N a\/∃id∈f,∃b,aq st.h id=Y b/\a∈c id) C.B v a:=by
    intro v a l;cases v
    ·exact .inl l
    exact l.imp .inl (λd=>d)
   have H:=(u.tree id b o).1;have y:∀a∈c id,be (λa=>N a\/∃id∈f,∃b,aq st.h id=Y b/\a∈c id) C.B .bg a:=λa l=>.inr ⟨id,n,b,o,l⟩;obtain⟨e,t⟩:=b;by_cases an:∃r,e=.optr r
   ·obtain⟨r,rfl⟩:=an;obtain⟨a,z,bx,M,ao,a4,bl,P,bs,Q⟩:=H;show cP _ _ _ _ _ (.val (.ptr .bg (j0 r)) (Y (nU r t))) _;have ao:O id=[.pointer (Y ⟨a,z,bo⟩)]:=ao;rw[ao];refine .val (τ:=.ptr .bg (j0 r)) (x:=Y (nU r t)) (cs:=[.pointer (Y ⟨a,z,bo⟩)]) ⟨bn,a,z,M,bn,y a (by grind),by grind [tu],P,wi E F Q (λL ce=>y L (by grind))⟩
   have av:c0 e (O id)=c0 (j0 e) (O id):=(by cases e<;>rfl);have a0:rQ ⟨e,t⟩=.val (j0 e) (nU e t):=by cases e<;>first|rfl|grind
   have ap:rP e=bq:=by cases e<;>first|exact F|grind
   rw[a0];show cP _ _ _ _ _ _ (c0 e (O id));rw[av];exact .val (wi E ap H y)
  ·rw[k];exact .dead _
  grind [GB]
 cases j with
 |fj cv=>
  cases m with|fj ci U=>
  cases p with|fj co V=>
  refine .fj (by grind) (λK a3 i k n=>?_);rw[jQ] at k;obtain⟨A,o,rfl⟩:=fG.1 k;exact D A i (U K A i o n) (V K _ i (by grind) n)
 |_=>exact D _ _ m p
theorem gM.Pn (t:gM C st G w) (y:∀a,y0 (gt i.g a) (gt st.g a)) (J:∀id,aq i.h id=aq st.h id):gM C i G w:=by
 obtain⟨k,n,l,d⟩:=t;refine⟨k,n,l,{d with tree:=λid e p=>d.tree id e (by grind),dis:=λj D e F L M=>d.dis j D e F (by grind) (by grind),tmp:=λa=>?_}⟩;have P:∀(b:ak) (f:Value),cP (be k C.B) w st.h n l b f->cP (be k C.B) w i.h n l b f:=λb f v=>
  v.tL (λO H x=>⟨x,cp _ _⟩) (λid _ e p=>⟨by grind,bn,bn,(d.tree id e p).1,λ_ _=>cp _ _⟩)
 have m:=d.tmp a;rcases y a with c|c|⟨N,E,ao,q,r,s⟩
 ·rw[c];exact .dead _
 ·grind
 rw[ao];rw[q] at m;generalize G.getD a bV=f at m;cases m with|fj z K=>
 refine .fj (r.trans z) (λj b f u I=>?_);obtain⟨o,A⟩:∃o,E[j]?=some o:=(by grind);rcases s j b o u A with c|c
 ·rw[c];exact .dead _
 grind
def gM.less (b:gM C st G w) (c:∀a,gt i.g a=.dead\/gt i.g a=gt st.g a) (d:∀id,aq i.h id=aq st.h id):gM C i G w:=
 b.Pn (λa=>(c a).imp id .inl) d
end
def sf:Op->bm bM
 |.build _ c=>c.toList.map (·.2)
 |.buildSlice _ _ c=>c.toList.map (·.2)
 |.store _ _ a=>[a]
 |.mapUpdate _ _ _ a=>[a]
 |.insert _ _ _ a=>[a]
 |.entryStore _ _ _ a=>[a]
 |.box _ a=>[a]
 |.assign a=>[a]
 |.call b=>match b.callee with
  |.value _=>b.args.toList
  |.builtin .append=>b.args.toList.drop 1
  |_=>[]
 |_=>[]
def vC (b:bR):X:=match b.dst with
 |some a=>a
 |none=>999999
def mM (a:aj7) (c:X) (b:bM->ak):bm bM->aj5
 |[]=>[]
 |x::d=>match b x with
  |.ref id []=>bif a.any (λe=>bH e.1 c&&bH e.2 id) then id::mM a c b d else mM a c b d
  |_=>mM a c b d
end
section
theorem HT {c d:bm b} (e:m<=a) (f:a<=c.length):(jF c d m a).length=c.length:=by grind [akG,akv,anS,jF]
theorem Nt {d e:bm b} (f:a<=m) (g:m<=d.length) (c:X):(jF d e a m)[c]?=if a<=c/\c<a+min e.length (m-a) then e[c-a]? else d[c]?:=by grind [jF]
def rA {k:Type} (tt:bm (bF×ah)) (d:bm (X×aG)) (f:X) (l:bF) (m j:ak) (e:cH->bv k):bv k:=
 match gZ tt l with
 |none=>bo
 |some i=>match m with
  |.ref id []=>match aq d id with
   |some ⟨.osl a,b⟩=>bif bb i a&&bH a.size 1&&a.pure then
    (lu d a j).bind λc=>e ⟨Y (f,.val (.int .i64) ((min c.length (b.length-0):X):Z)),[id],[(id,[])],[(id,⟨.osl a,jF b c 0 b.length⟩)]⟩
    else bo
   |_=>bo
  |.view id [] h g=>match aq d id with
   |some ⟨.osl a,b⟩=>bif bb i a&&bH a.size 1&&a.pure then
    (lu d a j).bind λc=>e ⟨Y (f,.val (.int .i64) ((min c.length (g-h):X):Z)),[id],[(id,[])],[(id,⟨.osl a,jF b c h g⟩)]⟩
    else bo
   |_=>bo
  |_=>bo
def cH.Vk {b:bm (X×bm a6)} {st:aQ}:(cH.mk (Y (a,d)) f b e).app st=⟨(a,d)::akm f b st.g,e++del f st.h⟩:=by show aQ.mk ((a,d)::nX f b st.g) (e++rI f st.h)=_;rw[tz,xQ]
section
variable {E:fF} {C:e4} {st:aQ} {a:Act} {w:bC} {I:X->Prop} {rt:X->ey} {fp:X->aj5} {o:bR}
def LH (e:cK C st a.tmps w I rt fp) {b:bm k.den} (c:lu st.h k (aV st.g n)=Y b):zr I C.B w k (a.eval n) b:=by
 refine wE e ?_;have:=B6 c;generalize si st.h k (aV st.g n)=i at this;cases i with
 |e5 l=>exact this.symm
 |part m o j=>obtain⟨f,d,rfl⟩:=this;exact⟨f,d,bn⟩
 |bad=>exact this.elim
theorem HS (co:cK C st a.tmps w I rt fp) {em:b} {dg:cH->bv b} {y:X} (gl:o.op=.call {callee:=.builtin .copy,args:=#[n,z],argTypes:=#[c,r]}) (f6:o.dst=Y y) (f7:C.ok y) {next:Act->bC->Prop} {ds:b5->Act->bC->Prop} (gi:∀eq a3 w',(∃s,dg s=Y em/\eq=s.app st)->a3.defers=a.defers->gM C eq a3.tmps w'->next a3 w') (f3:gZ E.tt c=Y Q) (gf:bb Q k=bq) (H:k.size=1) (V:k.pure=bq) {id e:X} {j i:bm k.den} (am:aq st.h id=Y ⟨.osl k,j⟩) (ce:m<=e) (ci:e<=j.length) (hc:zr I C.B w k (a.eval z) i) {a4:bv Addr} {d0:X} (gs:a.eval n=.slice a4 (e-m) d0) (gt:e-m=0\/∃d p M,rt id=[.slice (Y ⟨d,p,bo⟩) j.length M]/\a4=Y ⟨d,p+m,bo⟩) (f0:dg ⟨Y (y,.val (.int .i64) ((min i.length (e-m):X):Z)),[id],[(id,[])],[(id,⟨.osl k,jF j i m e⟩)]⟩=Y em):o.wp E.P a w next ds:=by
 obtain⟨f,dl,ay,d6,fz⟩:=gZ.ok f3;have fT:=fz.lay gf;obtain⟨mp,_,ap,_⟩:=fT.info;obtain⟨fl,nn,no⟩:=co.tree id _ am;obtain⟨fn,i3,d2,hr,cv,lf⟩:=hc;have d1:∀w':bC,w'.heap.size=w.heap.size->w'.os=w.os->w'.tape=w.tape->w'.output=w.output->(∀d,d∉fp id->w'.heap[d]?=w.heap[d]?)->(∀d,jm w' d=jm w d)->aU (be I C.B) w' (.osl k) (rt id) (jF j i m e) (fp id)->
  (Builtin.copy_ #[c,r] o.type #[a.eval n,a.eval z]).run E.P w=.ok (goInt ((min i.length (e-m):X):Z)) w'->o.wp E.P a w next ds:=by
  intro w' io is ix i0 i1 i2 ne ad;have ad:(bN a.eval o).run E.P w=.ok (.value (goInt ((min i.length (e-m):X):Z))) w':=(by simp only[bN,gl,akM,invoke,ak7,bW,ct,b1,amT,gW,sD,ad]);have go:=co.eB (S:=[id]) (keep:=[(id,[])]) (new:=[(id,⟨.osl k,jF j i m e⟩)]) (rtn:=rt) (fpn:=fp) (w':=w') (I':=I)
   ⟨Nat.le_of_eq io.symm,is,ix,i0,λd lc f2=>i1 d (f2 id ac _ am),λd _=>.of_eq (i2 d),λ_ N=>N,λ_ N=>.inl N,(by
    intro f ex t;rw[di] at t;split at t
    ·grind
    ·cases t),(by
    intro f g nx n7 t c1 lk;rw[di] at t c1;split at t
    ·split at c1
     ·omega
     cases c1
    ·cases t),(by
    intro s O ex an;simp only[gp] at O;subst O;have an:aq st.h id=Y ex:=an;rw[am] at an;obtain rfl:=gq an;exact⟨⟨.osl k,jF j i m e⟩,by rw[di,aw bn],bn,bn,⟨_,bn⟩,λnd _ _ _ T=>by grind [Ff]⟩),(by
    grind [vq,akc])⟩
  unfold ake;rw[ad];show next (a.put o.dst _) w'
  rw[f6];have V:=go.put f7 (av:=.val (.int .i64) ((min i.length (e-m):X):Z)) (v:=goInt ((min i.length (e-m):X):Z)) (.val (τ:=.int .i64) (cs:=[.int .i64 _]) ⟨bn,bn⟩);have hrel:gM C ((cH.mk (Y (y,.val (.int .i64) ((min i.length (e-m):X):Z))) [id] [(id,[])] [(id,⟨.osl k,jF j i m e⟩)]).app st) (a.put (Y y) (goInt ((min i.length (e-m):X):Z))).tmps w':=(by rw[cH.Vk];exact⟨I,_,_,V⟩);exact gi _ _ _ ⟨_,f0,bn⟩ rfl hrel
 have l2:Nat.min i.length (e-m)=min i.length (e-m):=rfl;by_cases T:min i.length (e-m)=0
 ·have le:jF j i m e=j:=by
   apply ij;intro f;rw[Nt ce ci,au aa]
  refine d1 w bn rfl rfl rfl (λ_ _=>rfl) (λ_=>rfl) (by grind) ?_;rw[gs,hr,T];exact run_copy_none w c r o.type dl a4 fn _ _ _ _ d6 (by rw[ap.info];simp[ap.size,H]) aa
 rcases gt with lb|⟨d,p,M,ek,rfl⟩
 ·omega
 rw[ek] at fl;obtain⟨i8,kg,ao,ft⟩:=fl;simp only[h4,aka,ca] at ao;obtain⟨rfl,_,rfl⟩:=ao;rcases ft with⟨bl,_⟩|⟨jp,mz,F,bl,d9,d3,d4,bx,d5⟩
 ·cases bl
 cases bl;have d4:j.length<=M:=d4;have d3:F.length=j.length:=d3;have gc:F.flatten=[]:=IH (λbs R=>by
  obtain⟨f,t,rfl⟩:=g1.1 R;have lt:f<j.length:=aa;obtain⟨D,_,_,A⟩:=d5 f j[f] F[f] ac ac;exact A.pure V)
 rw[gc] at d9;obtain⟨c2,hw,ib,ic,ii⟩:=cv.cells aa;rw[H,alG] at hw;have hi:i≠[]:=λs=>(by grind);obtain⟨a0,rfl⟩:∃a0,fn=some a0:=by
  rcases cv.2 with N|⟨kd,mt,rfl,_⟩
  ·grind
  grind
 let l:=c2.take (min i.length (e-m))
 have f4:l.length=min i.length (e-m):=(by grind);have f5:∀g v,l[g]?=Y v->c2[g]?=Y v:=λg v q=>by
  rw[amK] at q;split at q
  ·exact q
  grind
 have d8:∀g,g<l.length->(w.cell? ⟨d,p+m+g,bo⟩).isSome=bq:=λg q=>(bx (p+m+g) aa (by grind)).1;have ad:=run_copy_cells (P:=E.P) w c r o.type dl d (p+m) (e-m) d0 a0 i.length i3 l d6 (by rw[ap.info];simp[ap.size,H]) (by rw[f4]) (λg v q=>ic a0 bn hi g v (f5 g v q)) d8 (λg q=>(bx (p+m+g) aa (by grind)).2) (λv x=>ib v (uA x));have d7:d∈fp id:=(by grind);have f1:∀K u,be I C.B K u->u≠d:=λK u U s=>co.notM am d d7 K (s▸U);refine d1 (w.setCells d (p+m) l) (uc d l _ w) (pL d l _ w).1 (pL d l _ w).2.1 (pL d l _ w).2.2 (λu T=>yM d l _ w u (λs=>T (s▸d7))) (λu=>Bc _ _ _ _ _) ?_ ?_
 ·rw[ek,d9];refine⟨Y ⟨d,p,bo⟩,M,by rw[HT ce ci],.inr ⟨d,p,bI j.length [],bn,by rw[IH (λbs R=>List.eq_of_mem_replicate R)],by grind [HT],by grind [HT],?_,?_⟩⟩
  ·intro g hs hv;obtain⟨of,ol⟩:=bx g hs hv;grind [KW,anG]
  intro f L bs J R;have f9:bs=[]:=(by grind);subst f9;rw[Nt ce ci] at J;have el:∀{D:ey} {L:k.den},aU (be I C.B) w k D L []->aU (be I C.B) (w.setCells d (p+m) l) k D L []:=λG=>G.mono (λK u U=>⟨U,sb (f1 K u U)⟩) ac;split at J
  ·rename_i lo;have q:f-m<l.length:=aa;have ge:d2[f-m]?=Y []:=by
    have mc:f-m<d2.length:=(by rw[cv.1];omega);grind [List.flatten_eq_nil_iff,b3,bX]
   have G:=ii (f-m) L [] J ge;rw[H,alG] at G;have f8:(c2.drop (f-m)).take 1=[l[f-m]]:=(by grind [List.drop_eq_getElem_cons]);rw[f8] at G;refine⟨[l[f-m]],by grind,?_,el G⟩;intro g v x;cases g with
   |zero=>
    simp only[ri,eZ] at x;subst x;have:=ami d l (p+m) w d8 (f-m) q;rw[<-this,H];congr 2;omega
   |succ g=>grind
  rename_i mo;have ll:f<j.length:=(hT.1 J).1;obtain⟨D,fr,fs,A⟩:=d5 f L (F[f]'(by omega)) J ac
  have O:F[f]'(by omega)=[]:=A.pure V
  rw[O] at A;refine⟨D,fr,?_,el A⟩;intro g v x;have:=fs g v x;grind [amW,akU]
 grind
theorem e6.copy {L:b} {G:cH->bv b} (B:o.op=.call {callee:=.builtin .copy,args:=#[n,z],argTypes:=#[c,r]}) (v:o.dst=Y m) (x:C.ok m) (d:rA E.tt st.h m c (aV st.g n) (aV st.g z) G=Y L):e6 E C o st (λT=>∃K,G K=Y L/\T=K.app st):=by
 rintro a w ⟨I,rt,fp,f⟩ next am A
 have k:=f.aV n;unfold rA at d;split at d
 ·cases d
 rename_i M D;split at d
 ·rename_i id u;split at d
  case h_2=>cases d
  rename_i j N i;cases e:(bb M j&&bH j.size 1&&j.pure) with
  |false=>grind
  |true=>
  rw[e] at d;simp only[bk] at e;obtain⟨V,q,d⟩:=eV.1 d;rw[u] at k;generalize p:a.eval n=U at k;cases k with|ref l y=>
  rw[i] at l;cases l;obtain⟨rfl,rfl,rfl⟩:=akx.1 y;have F:=(f.tree id _ i).1;obtain⟨H,J,ao,O⟩:=F;have Q:a.eval n=.slice H (N.length-0) J:=(by rw[p,ao];rfl);refine HS f B v x A D e.1.1 (fA e.1.2) e.2 i (eU _) (bd _) (LH f q) Q ?_ d;grind
 ·rename_i id a4 av u;split at d
  case h_2=>cases d
  rename_i j N i;cases e:(bb M j&&bH j.size 1&&j.pure) with
  |false=>grind
  |true=>
  rw[e] at d;simp only[bk] at e;obtain⟨V,q,d⟩:=eV.1 d;rw[u] at k;generalize p:a.eval n=U at k;cases k with|mv=>(exact HS f B v x A D e.1.1 (fA e.1.2) e.2 i (bd _) (eU _) (LH f q) p (.inl bn) d)|view l y R S a0=>
  rw[i] at l;cases l;rename_i ad bl an bs a3 J;obtain⟨s,_,t⟩:=akx.1 y;have s:ah.osl j=ah.osl ad:=s;cases s;have P:=fA e.1.2;have F:=(f.tree id _ i).1;obtain⟨H,ap,ao,O⟩:=F;rw[ao] at t;simp only[h4,aka,ca] at t;obtain⟨rfl,rfl,rfl⟩:=t;refine HS f B v x A D e.1.1 P e.2 i R S (LH f q) p ?_ d;grind
 grind
end
end
section
def a5.cells {w q:bC} (e:∀a,q.cell? a=w.cell? a):∀{p:bm a6} {τ r:ah} {m n:Loc} {f g:ey},a5 w τ m f p r n g->a5 q τ m f p r n g
 |[],τ,_,_,_,_,_,c=>by cases τ<;>exact c
 |s::p,τ,r,m,n,f,g,c=>by
  have u:∀{b o:X} {d:ey},fy w b o d->fy q b o d:=λy A C z=>(by rw[e];exact y A C z);cases τ<;>cases s<;>simp only[a5] at c
  case osl.idx t i=>
   obtain⟨b,o,B,v,d,h,j,k,l,x⟩:=c;exact⟨b,o,B,v,d,h,j,k,u l,x.cells e⟩
  case optr.deref t=>
   obtain⟨b,o,d,h,j,k,l⟩:=c;exact⟨b,o,d,h,j,u k,l.cells e⟩
  case st.unst t=>exact a5.cells e (τ:=t) c
  case pr.fst a b=>exact a5.cells e (τ:=a) c
  case pr.snd a b=>exact a5.cells e (τ:=b) c
theorem af0 (a:ah):fw a []=Y a:=by cases a<;>rfl
theorem a5.yU {w:bC} {r:bm a6}:∀{p:bm a6} {τ c:ah} {m n:Loc} {e f:ey},a5 w τ m e p c n f->fw τ (p++r)=fw c r
 |[],τ,_,_,_,_,_,a=>by grind [akx]
 |s::p,τ,_,_,_,_,_,a=>by
  cases τ<;>cases s<;>simp only[a5] at a
  case osl.idx t i=>obtain⟨d,o,u,q,g,h,j,k,b,l⟩:=a;exact l.yU
  case optr.deref t=>obtain⟨d,o,g,h,j,k,b⟩:=a;exact b.yU
  case st.unst t=>exact a5.yU (p:=p) (τ:=t) a
  case pr.fst t1 t2=>exact a5.yU (p:=p) (τ:=t1) a
  case pr.snd t1 t2=>exact a5.yU (p:=p) (τ:=t2) a
section
variable {E:fF} {C:e4} {st:aQ} {a:Act} {A:ev} {w:bC} {I:X->Prop} {rt:X->ey} {fp:X->aj5} {o:bR} {Q:aQ->Prop}
def NK:∀{p q:bm a6},k6 (p++[.deref]) q=bq->k6 p q=bq
 |[],q,a=>by
  cases q with
  |nil=>cases a
  |cons s q=>
   cases s<;>cases a
 |s::p,[],a=>by cases s<;>cases a
 |s::p,b::q,a=>by cases s<;>cases b<;>first|(cases a;done)|exact NK (p:=p) (q:=q) a|rfl
theorem cK.Fs (v:cK C st A w I rt fp) {id:X} (t:aq st.h id=Y P) {d6:ah} {ad:Loc} (N:a5 w P.1 bo (rt id) j d6 ad V) {S:bm (Z×k.den)} (cv:eT P.1 P.2 j (.mp k) (Y (S,m))):∃a E D,V=[.map (Y a)]/\a∈fp id/\(∀q b,be I C.B q b->b≠a)/\hA (be I C.B) w k a S m E D/\∀{e:bT ch} {c:X} {z:bm (Z×k.den)} {K:bm (Z×X×k.den)} {p:P.1.den},hA (be I C.B) (gT w a e c) k a z c e K->kY w (gT w a e c) a->ff P.1 P.2 j (.mp k) (Y (z,c)) p->∃d5 a0,cK C ⟨akm [id] [(id,j++[.deref])] st.g,(id,⟨P.1,p⟩)::del [id] st.h⟩ A (gT w a e c) I d5 a0:=by
 obtain⟨ds,Q,co⟩:=v.tree id P t;obtain⟨f3,d9,el,d4,a3,a4,bl,L,em,bs,bx⟩:=AS j (loc:=bo) ds (λ_ _ i=>by cases i) Q (λ_ _ i=>by cases i) (v.notM t) cv;obtain⟨an,ao,ap⟩:=N.kN a3;subst an;subst ao;subst ap;obtain⟨a,E,D,rfl,rfl,F⟩:=a4.P2;have G:a∈fp id:=L.mem_iff.2 ac;have ci:∀q b,be I C.B q b->b≠a:=λq b f n=>v.notM t a G q (n▸f);refine⟨a,E,D,bn,G,ci,F,?_⟩;intro e c z K p ce ex R;have O:=L.nodup_iff.1 Q;rw[jt] at O;have ft:∀b∈d4,b≠a:=λb f n=>O.2.2 a ac b f n.symm;have x:=ae5 (es':=e) (c':=c) F.h;have cs:=ae6 (es':=e) (c':=c) F.h;have d1:∀b,b≠a->c8 w (gT w a e c) b:=λb f=>Gi f;obtain⟨ek,av,fz,_,d2,_,f0,_,fT⟩:=bs (gT w a e c) (be I C.B) [.map (Y a)] (Y (z,c)) [a] p (λ_ _ i=>i) (λb f=>by
   have c1:b≠a:=by
    rcases f with⟨q,fr⟩|f|⟨o,fs⟩
    ·grind
    ·grind
    grind
   exact⟨λu _=>x _,λu=>cs _,λu=>by rw[x],(d1 b c1).2⟩)
  (aU.P3 ce) (λ_ _=>rfl) (λam d3 n=>by
   have:=(bl am d3 n).1;exactλu U s=>by rw[x];exact this u U s) R
 obtain rfl:=d2 bn (.inr bn);have fn:=(co a G).2.2.1;have d:nJ C st w (gT w a e c) I I rt fp [id] [(id,j++[.deref])] [(id,⟨P.1,p⟩)] (λ_=>rt id) (λ_=>av):=by
  refine⟨by grind [SC],bn,bn,bn,?_,?_,λ_ i=>i,λ_ i=>.inl i,?_,?_,?_,?_⟩
  ·grind [BN]
  ·intro b _;by_cases n:b=a
   ·grind
   exact .of_heap (BN n)
  ·intro H J d;rw[di] at d;split at d
   ·grind [SC]
   cases d
  ·intro H u J U l s fl;rw[di] at l s;split at l
   ·split at s
    ·omega
    cases s
   cases l
  ·intro H l J d;simp only[gp] at l;subst l;rw[t] at d;obtain rfl:=gq d;refine⟨⟨P.1,p⟩,by rw[di,aw bn],bn,bn,?_,λT f8 f4 d8 _ dl=>dl.cells x⟩;have eq:=N.yU (r:=[.deref]);grind [af0,fw]
  intro H l J d T f7 f6 f1 d7 f2 y dg c2 M d0;simp only[gp] at l;subst l;rw[t] at d;obtain rfl:=gq d;have y:=NK y;refine⟨⟨P.1,p⟩,by rw[di,aw bn],vr y R M,λb f=>?_⟩;obtain⟨ay,f5⟩:=bx T _ _ _ _ _ y (by exact dg) M c2 d0 b f;grind
 exact⟨_,_,v.eB d⟩
def yg {α:Type} (c:bv (bm (Z×α)×X)) (b:Z) (d:α):bv (bv (bm (Z×α)×X)):=match c with
 |none=>bo
 |some a=>Y (Y (kS a.1 b d,bif (gk a.1 b).isSome then a.2 else a.2+1))
def oM {f:Type} (tt:bm (bF×ah)) (i:bm (X×aG)) (h:bF) (n d m:ak) (g:cH->bv f):bv f:=
 match n with
 |.ref id c=>match aq i id with
  |some a=>match lg tt h,d,m with
   |some l,.val (.int .i64) d,.val p e=>match fw a.1 c with
    |some (.mp b)=>bif bb l b then match h7 b e with
     |some e=>(h8 a.1 a.2 c (.mp b)).bind λj=>(yg (α:=b.den) j d e).bind λk=>(mV a.1 a.2 c (.mp b) k).bind λo=>g ⟨bo,[id],[(id,c++[.deref])],[(id,⟨a.1,o⟩)]⟩
     |none=>bo
     else bo
    |_=>bo
   |_,_,_=>bo
  |none=>bo
 |_=>bo
def Zk {α:Type} (c:bv (bm (Z×α)×X)) (b:Z):bv (bv (bm (Z×α)×X)):=match c with
 |none=>bo
 |some a=>Y (Y (jw a.1 b,a.2))
def rY {e:Type} (tt:bm (bF×ah)) (h:bm (X×aG)) (g:bF) (l d:ak) (f:cH->bv e):bv e:=
 match l with
 |.ref id b=>match aq h id with
  |some a=>match lg tt g,d with
   |some k,.val (.int .i64) d=>match fw a.1 b with
    |some (.mp c)=>bif bb k c then
     (h8 a.1 a.2 b (.mp c)).bind λi=>(Zk (α:=c.den) i d).bind λj=>(mV a.1 a.2 b (.mp c) j).bind λm=>f ⟨bo,[id],[(id,b++[.deref])],[(id,⟨a.1,m⟩)]⟩
     else bo
    |_=>bo
   |_,_=>bo
  |none=>bo
 |_=>bo
theorem P7 {B:b} {r:cH->bv b} {f:bM} (j:o.op=.mapUpdate c f n z\/o.op=.insert c f n z) (S:o.dst=bo) (d:oM E.tt st.h c (aV st.g f) (aV st.g n) (aV st.g z) r=Y B):e6 E C o st (λcv=>∃t,r t=Y B/\cv=t.app st):=by
 rintro a w ⟨I,rt,fp,i⟩ next d2 ad
 have p:=i.aV f;have e:=i.aV n;have m:=i.aV z;unfold oM at d;split at d
 case h_2=>cases d
 rename_i id d6 H;split at d
 case h_2=>cases d
 rename_i ex y;split at d
 case h_2=>cases d
 rename_i dg k eq el R D G;obtain⟨dl,d1,c1,c2,d7⟩:=lg.ok R;split at d
 case h_2=>cases d
 rename_i q an;cases u:bb dg q with
 |false=>grind
 |true=>
 rw[u] at d;simp only[bG] at d;split at d
 case h_2=>cases d
 rename_i ek a0;obtain⟨bs,U,K⟩:=eV.1 d;obtain⟨d5,v,L⟩:=eV.1 K;obtain⟨em,a3,M⟩:=eV.1 L;cases bs with
 |none=>cases v
 |some bx=>
 obtain⟨a4,s⟩:=bx;cases v;cases kq a0;rw[H] at p;rw[D] at e;rw[G] at m;generalize av:a.eval f=d9 at p;generalize V:a.eval n=d4 at e;generalize ap:a.eval z=d8 at m;cases e with|val co=>
 obtain⟨_,rfl⟩:=co;cases m with|val cX=>
 cases p with|ref A x=>
 rw[y] at A;cases A;obtain⟨l,d3,ds,rfl,u,O,N,T⟩:=i.Fs y x (jc U);have:=x.ty;rw[an] at this;cases this;obtain⟨F,d0,ay,ce,ci⟩:=N.update (P:=E.P) c1 c2 k cX.len cX;obtain⟨cs,J,Q⟩:=T (ce (λbl n e=>⟨e,O bl n e⟩)) ci (nw a3);unfold ake;have am:(bN a.eval o).run E.P w=.ok .skip (gT w l F (bif (gk a4 k).isSome then s else s+1)):=by
  have this:∀q:ah,c0 (.mp q) [alE (Y l)]=.map (Y l):=λ_=>rfl;rcases j with j|j<;>
  ·simp only[bN,j,av,V,ap,bW];rw[this,show c0 (.int .i64) [akg .i64 k]=.int .i64 k from rfl,ay];rfl
 rw[am];show next (a.put o.dst bV) _
 rw[S];refine ad _ _ _ ⟨_,M,?_⟩ rfl ⟨I,cs,J,Q⟩;rfl
theorem Zu {x:b} {m:cH->bv b} (U:o.op=.call {callee:=.builtin .delete,args:=#[z,n],argTypes:=#[c,r]}) (O:o.dst=bo) (d:rY E.tt st.h c (aV st.g z) (aV st.g n) m=Y x):e6 E C o st (λbx=>∃p,m p=Y x/\bx=p.app st):=by
 rintro a w ⟨I,rt,fp,i⟩ next dg T
 have j:=i.aV z;have e:=i.aV n;unfold rY at d;split at d
 case h_2=>cases d
 rename_i id d2 D;split at d
 case h_2=>cases d
 rename_i d6 u;split at d
 case h_2=>cases d
 rename_i co k N A;obtain⟨cs,c2,ce,ci,d3⟩:=lg.ok N;split at d
 case h_2=>cases d
 rename_i l ad;cases q:bb co l with
 |false=>grind
 |true=>
 rw[q] at d;simp only[bG] at d;obtain⟨av,R,G⟩:=eV.1 d;obtain⟨d1,s,H⟩:=eV.1 G;obtain⟨d5,an,J⟩:=eV.1 H;cases av with
 |none=>cases s
 |some a0=>
 obtain⟨d0,y⟩:=a0;cases s;rw[D] at j;rw[A] at e;generalize am:a.eval z=d4 at j;generalize S:a.eval n=ds at e;cases e with|val bl=>
 obtain⟨_,rfl⟩:=bl;cases j with|ref v t=>
 rw[u] at v;cases v;obtain⟨f,dl,cv,rfl,q,L,K,Q⟩:=i.Fs u t (jc R);have:=t.ty;rw[ad] at this;cases this;obtain⟨B,c1,ay,a3,a4⟩:=K.delete (P:=E.P) ce ci k o.type r;obtain⟨bs,F,M⟩:=Q (a3 (λap n e=>⟨e,L ap n e⟩)) a4 (nw an);unfold ake;have V:(bN a.eval o).run E.P w=.ok (.value (.tuple #[])) (gT w f B y):=(by simp only[bN,U,akM,invoke,ak7,bW,ct,b1,amT,gW,sD,am,S];have this:∀l:ah,c0 (.mp l) [alE (Y f)]=.map (Y f):=λ_=>rfl;rw[this,show c0 (.int .i64) [akg .i64 k]=.int .i64 k from rfl,ay];rfl);rw[V];show next (a.put o.dst (.tuple #[])) _
 rw[O];refine T _ _ _ ⟨_,J,?_⟩ rfl ⟨I,bs,F,M⟩;rfl
def v9 (c:bm (X×aG)) (f g:ak):bv (X×bm a6×X×aG):=match f,g with
 |.ref id (e::d),.ref a []=>match aq c a with
  |some b=>match b.1 with
   |.osl h=>match h.pure with
    |true=>bo
    |false=>Y (id,e::d,a,b)
   |_=>bo
  |none=>bo
 |_,_=>bo
def zv {h:Type} (tt:bm (bF×ah)) (e:bm (X×aG)) (b:X) (j:bF) (id:X) (c:bm a6) (f:X) (k:aG) (i:cH->bv h):bv h:=
 match gZ tt j,aq e id,aq e b with
 |some l,Y d,bo=>match fw d.1 c with
  |some (.osl a)=>match h7 (.osl a) k.2 with
   |some g=>bif bb l a&&(b2 a.size 1300&&(a.kT&&!(bH f id))) then
    (h8 d.1 d.2 c (.osl a)).bind λm=>(cI (cz (α:=a.den) m+cz (α:=a.den) g)).bind λ_=>i ⟨Y (b,.app id c a g [b,f]),[id],[(id,c),(id,[])],[(b,⟨.eF,()⟩),(id,d)]⟩
    else bo
   |none=>bo
  |_=>bo
 |_,_,_=>bo
def oB {g:Type} (tt:bm (bF×ah)) (h:bm (X×ah)) (a:bm (X×aG)) (d:X) (c:bF) (e f:ak) (b:cH->bv g):bv g:=match v9 a e f with
 |some (id,j,i,k)=>zv tt a d c id j i k b
 |none=>pc tt h a d c e f b
theorem Kr {id:X} (a:v9 e d t=Y (id,j,m,P)):d=.ref id j/\t=.ref m []/\aq e m=Y P:=by unfold v9 at a;grind
theorem Vh {D:b} {s:cH->bv b} (y:o.op=.call {callee:=.builtin .append,args:=#[z,n],argTypes:=#[c,c]}) (v:o.dst=Y m) (x:C.ok m) (d:oB E.tt l st.h m c (aV st.g z) (aV st.g n) s=Y D):e6 E C o st (λce=>∃f,s f=Y D/\ce=f.app st):=by
 unfold oB at d;split at d
 case h_2=>exact e6.app y v x (Ve d (λf p=>⟨f,p,bn⟩))
 rename_i id dg e ci am;obtain⟨N,O,q⟩:=Kr am;unfold zv at d;split at d
 case h_2=>cases d
 rename_i co d3 L av M;split at d
 case h_2=>cases d
 rename_i j c1;split at d
 case h_2=>cases d
 rename_i d1 a3;cases i:(bb co j&&(b2 j.size 1300&&(j.kT&&!(bH e id)))) with
 |false=>grind
 |true=>
 rw[i] at d;simp only[bk] at i;obtain⟨R,ap,U,V⟩:=i;have V:e≠id:=λf=>(by simp_all);obtain⟨d0,a0,J⟩:=eV.1 d;obtain⟨_,S,K⟩:=eV.1 J;obtain⟨d2,F⟩:=ci;cases kq a3;rintro a w ⟨I,rt,fp,k⟩ next cs ad
 refine My (S2:=[e]) y v x k ad L R (gX ap) U N av M (jc a0) ?_ ?_ (yc S) ⟨_,K,bn⟩
 ·have r:=k.aV n;rw[O] at r;generalize c2:a.eval n=ds at r;cases r with|ref A T=>
  rw[q] at A;cases A;obtain⟨rfl,rfl,rfl⟩:=akx.1 T;obtain⟨bl,bx,dl⟩:=k.tree e _ q;have a4:=bl;obtain⟨t,u,an,cv⟩:=a4;have bs:aU (be I C.B) w (.osl j) [.slice t (cz (α:=j.den) F) u] F (fp e):=(by grind);obtain⟨_,_,H,p,P,Q,_⟩:=kE.osl bs;exact⟨t,u,H,by rw[an];rfl,p,Q bx,λG i=>⟨e,ac,_,q,P G i⟩⟩
 grind
end
end
section
section
variable {P:bY} {w:bC} {b c:X} {A:bT ch} {M:eE->X->Prop} {t:ah} {l:bm (Z×t.den)} {L:bm (Z×X×t.den)}
theorem KX {d e:bT ch} (g:w.heap[b]?=Y (.map A c)) (f:gT w b d a=gT w b e m):d=e/\a=m:=by grind [alo,Obj.map.injEq,oV]
theorem hA.MF (h:hA M w t b l c A L) {g:ch} (i:A[a]?=Y g):∃d f,L[a]?=Y d/\g=⟨.int .i64 d.1,c0 t f,d.2.1⟩:=by have j:a<L.length:=(by have:=(sj.1 i).1;rw[h.n] at this;omega);obtain⟨f,_,k,_⟩:=h.e a L[a] (bi j);grind
theorem hA.af7 (f:hA M w t b l c A L) {d e:Z×X×t.den} (n:L[a]?=Y d) (o:L[m]?=Y e) (k:d.1=e.1):a=m:=by have h:=f.pB.nd;have g:a<(L.map (·.1)).length:=(by grind);apply(amR g h (i:=a) (j:=m)).1;grind
theorem hA.af6 (f:hA M w t b l c A L) {e d:Z×X×t.den} (n:L[a]?=Y e) (o:L[m]?=Y d) (k:e.2.1=d.2.1):a=m:=by have h:=f.pB.2.2.1;have g:a<(L.map λd=>d.2.1).length:=(by grind);apply(amR g h (i:=a) (j:=m)).1;grind
theorem P1 {d:Type} {c:bT d} {e f:d->d} (g:∀b,c[a]?=Y b->e b=f b):c.modify a e=c.modify a f:=by grind
theorem hA.entry (d:hA M w t b l c A L) {z y:bF} {N:cr} (n:P.underlying r=Y (.map z y)) (g:P.underlying z=Y (.int N)) (a:Z) {x:t.den} (J:V.length=t.size) (F:aU M w t V x []) (K:∀w,(akl y).run P w=.ok (c0 t V) w):∃(f:bT ch) (o:bm (Z×X×t.den)) (u:ey) (p e:X),(anT r (.map (Y b)) (.int .i64 a)).run P w=.ok (.tuple #[c0 t u,goInt ((p:X):Z)]) (gT w b f (bif (gk l a).isSome then c else c+1))/\aU M w t u ((gk l a).getD x) []/\f[e]?=Y (amJ (.int .i64 a) (c0 t u) p)/\(∀{B:eE->X->Prop},(∀G a,M G a->B G a/\a≠b)->hA B (gT w b f (bif (gk l a).isSome then c else c+1)) t b (kS l a ((gk l a).getD x)) (bif (gk l a).isSome then c else c+1) f o)/\kY w (gT w b f (bif (gk l a).isSome then c else c+1)) b:=by
 rcases d.find (P:=P) g a with⟨v,I,s⟩|⟨e,p,S,q,v,I,s,Q,C,D⟩
 ·obtain⟨f,o,ay,i,j⟩:=d.update (P:=P) n g a J F;rw[v] at ay i j|-;simp only[anB,bP,Option.getD_none] at ay i j|-;have k:(akV r (.map (Y b)) (.int .i64 a) (c0 t V)).run P w=.ok () (gT w b (A.push ⟨.int .i64 a,c0 t V,c⟩) (c+1)):=by
   simp only[akV,bW,b7 n,b1,alH d.h,oU g,s];exact qU d.h
  rw[ay] at k;simp only[anU,alz] at k;obtain⟨rfl,_⟩:=KX d.h k;refine⟨_,o,V,c,A.size,?_,F,by rw[Array.getElem?_push,aw bn],i,j⟩;simp only[anT,bW,b7 n,b1,alH d.h,oU g,s,K,qU d.h,ct];rfl
 obtain⟨f,o,ay,i,j⟩:=d.update (P:=P) n g a s C;rw[v] at ay i j|-;simp only[amQ,bG,wX] at ay i j|-;have E:(alD (((A[e]?).map (·.key)).getD (.int .i64 a)) (.int .i64 a)).run P w=.ok (.int .i64 a) w:=(by simp_all [alD,anC]);have k:(akV r (.map (Y b)) (.int .i64 a) (c0 t q)).run P w=.ok () (gT w b (A.modify e λm=>{m with key:=.int .i64 a,val:=c0 t q}) c):=(by simp only[akV,bW,b7 n,b1,alH d.h,oU g,D,E];exact qU d.h);rw[ay] at k;simp only[anU,alz] at k;obtain⟨rfl,_⟩:=KX d.h k;refine⟨_,o,q,p,e,?_,C,by grind,i,j⟩;have ao:(A.modify e λm=>{m with key:=.int .i64 a,val:=c0 t q})=A.modify e λm=>{m with key:=.int .i64 a}:=P1 λm R=>(by grind);have H:((A[e]?).map λO=>((O.born:X):Z)).getD 0=(p:Z):=(by grind);simp only[anT,bW,b7 n,b1,alH d.h,oU g,D,E,qU d.h,ct,ao,H];rfl
theorem hA.WY (f:hA M w t b l c A L) {e:ch} {d:Z} (y:A[a]?=Y e) (ci:e.key=.int .i64 d) {q F:bF} {ad:cr} (x:P.underlying r=Y (.map q F)) (k:P.underlying q=Y (.int ad)) {E:t.den} (K:V.length=t.size) (U:aU M w t V E []):∃i j,(aoK r (.map (Y b)) (.int .i64 (e.born:Z)) (c0 t V)).run P w=.ok () (gT w b i (bif (gk l d).isSome then c else c+1))/\(∀{s:eE->X->Prop},(∀C d,M C d->s C d/\d≠b)->hA s (gT w b i (bif (gk l d).isSome then c else c+1)) t b (kS l d E) (bif (gk l d).isSome then c else c+1) i j)/\kY w (gT w b i (bif (gk l d).isSome then c else c+1)) b:=by
 obtain⟨D,a0,z,bx⟩:=f.MF y;have cs:D.1=d:=(by grind);rcases f.find (P:=P) k d with⟨u,v,G⟩|⟨g,cv,c1,av,u,v,G,a4,bl,H⟩
 ·grind
 obtain rfl:g=a:=f.af7 v z aa;obtain⟨i,j,ay,n,o⟩:=f.update (P:=P) x k d K U;rw[u] at ay n o|-;simp only[amQ,bG] at ay n o|-;have S:(alD (((A[g]?).map (·.key)).getD (.int .i64 d)) (.int .i64 d)).run P w=.ok (.int .i64 d) w:=(by simp_all [alD,anC]);have p:(akV r (.map (Y b)) (.int .i64 d) (c0 t V)).run P w=.ok () (gT w b (A.modify g λe=>{e with key:=.int .i64 d,val:=c0 t V}) c):=(by simp only[akV,bW,b7 x,b1,alH f.h,oU k,H,S];exact qU f.h);rw[ay] at p;simp only[anU,alz] at p;obtain⟨rfl,_⟩:=KX f.h p;refine⟨_,j,?_,n,o⟩;have ao:(A.modify g λe=>{e with key:=.int .i64 d,val:=c0 t V})=A.modify g λe=>{e with val:=c0 t V}:=P1 λa3 N=>(by grind);have O:A.findIdx? (λan=>(an.born:Z)==(e.born:Z))=Y g:=by
  rw[Array.findIdx?_eq_some_iff_getElem];have Q:=(sj.1 y).1;refine⟨Q,?_,λB ce co=>?_⟩
  ·grind
  have R:B<A.size:=aa;obtain⟨am,ap,T,N⟩:=f.MF (B7 R);have bs:(A[B].born:Z)=(e.born:Z):=(by grind);have J:am.2.1=D.2.1:=(by grind);have:=f.af6 T z J;omega
 have I:∀(m:Z) (w:bC),(asInt (.int .i64 m)).run P w=.ok m w:=λm w=>(by simp[asInt,ali]);simp only[aoK,bW,ct,b1,alH f.h,I,O,qU f.h,ao];rfl
end
def rZ {f:Type} (tt:bm (bF×ah)) (j:bm (X×aG)) (i:X) (h:bF) (m a:ak) (g:cH->bv f):bv f:=
 match m with
 |.ref id c=>match aq j id with
  |some b=>match lg tt h,a with
   |some l,.val (.int .i64) a=>match fw b.1 c with
    |some (
     .mp t)=>match mw t with
     |some e=>bif bb l t then
      (h8 b.1 b.2 c (.mp t)).bind λd=>(yg (α:=t.den) d a ((mR d a).getD e)).bind λk=>(mV b.1 b.2 c (.mp t) k).bind λn=>
       g ⟨Y (i,.fj [.val t ((mR (α:=t.den) d a).getD e),.ent id c a]),[id],[(id,c++[.deref])],[(id,⟨b.1,n⟩)]⟩
      else bo
     |none=>bo
    |_=>bo
   |_,_=>bo
  |none=>bo
 |_=>bo
def rM {b:Type} (tt:bm (bF×ah)) (e:bm (X×aG)) (d:bF) (k i j:ak) (c:cH->bv b):bv b:=
 match k,i with
 |.ref id a,.ent f h g=>bif bH f id&&mj h a then oM tt e d (.ref id a) (.val (.int .i64) g) j c else bo
 |_,_=>bo
theorem ff.k9:∀{p:bm a6} {τ:ah} {e g:τ.den} {d:ah} {f:d.den},ff τ e p d f g->eT τ g p d f
 |[],τ,e,g,d,f,c=>by grind [eT.gz,ff.gz]
 |s::p,τ,e,g,d,f,c=>by
  cases τ<;>cases s<;>simp only[ff] at c
  case osl.idx t i=>
   obtain⟨l,h,j,c,rfl⟩:=c;have k:i<e.length:=(hT.1 j).1;exact⟨h,by rw[List.getElem?_set_self k],ff.k9 (p:=p) c⟩
  case optr.deref t=>exact ff.k9 (p:=p) (τ:=t) c
  case st.unst t=>exact ff.k9 (p:=p) (τ:=t) c
  case pr.fst a b=>obtain⟨h,c,rfl⟩:=c;exact ff.k9 (p:=p) c
  case pr.snd a b=>obtain⟨h,c,rfl⟩:=c;exact ff.k9 (p:=p) c
def O5:∀a:bm a6,hj (a++[.deref]) a=bq
 |[]=>rfl
 |s::a=>by cases s<;>exact O5 a
theorem YD (id:X) (a:bm a6):fK [id] [(id,a++[.deref])] (.ref id a)=.ref id a:=by
 have:lh [(id,a++[.deref])] (.ref id a)=bq:=by
  cases a with
  |nil=>simp[lh]
  |cons b a=>
   have:=O5 (b::a);simp_all [List.any_cons,List.any_nil,Bool.or_false,ame,amk,lh]
 show fh _ _ _=_;unfold fh;rw[show kx [id] [(id,a++[.deref])] (.ref id a)=lh [(id,a++[.deref])] (.ref id a) from rfl,this];simp
def ac4 {id:X} (a:aV S n=.ref id j):aV (akm [id] [(id,j++[.deref])] S) n=.ref id j:=by
 cases n with
 |tmp c=>
  have a:gt S c=.ref id j:=a;have b:=qD [id] [(id,j++[a6.deref])] S c;rw[a] at b;exact b.trans (YD id j)
 |const d=>exact absurd a (by cases d<;>simp[aV])
 |global S=>cases a
 |func e=>cases a
section
variable {E:fF} {C:e4} {st:aQ} {o:bR} {Q:aQ->Prop}
theorem ZA {a:Act} (k:cK C i a.tmps v N O x) {id:X} (q:aV i.g z=.ref id j) (d:aq i.h id=Y P) {t:ah} {G:bm (Z×t.den)} (w:eT P.1 P.2 j (.mp t) (Y (G,m))) {b:X} (E:a.eval z=.map (Y b)) {f:bT ch} (A:v.heap[b]?=Y (.map f m)) {F:X} {c:ch} (y:f[F]?=Y c) {n:Z} (s:c.key=.int .i64 n):cP (be N C.B) v i.h O x (.ent id j n) (.int .i64 (c.born:Z)):=by
 have e:=k.aV (a:=a) z;rw[q,E] at e;generalize M:alE (Y b)=T at e;cases e with|ref o l=>
 rename_i S U R J;rw[d] at o;obtain rfl:=gq o;obtain⟨rfl,L,D,_,u⟩:=k.k9 d w l;rcases D.JN with⟨c,_⟩|⟨p,Q,I,K,H,_,rfl,rfl,_⟩
 ·cases c
 have r:b=p:=(by grind [c0]);subst r;exact .ent d l (u b ac) (nY.2 A) y s
theorem ZB {an:Type} {V:an} {x:cH->bv an} {m:bM} (dg:o.op=.mapEntry r m z) (bx:o.dst=Y a) (bs:C.ok a) (d:rZ E.tt st.h a r (aV st.g m) (aV st.g z) x=Y V):e6 E C o st (λv=>∃F,x F=Y V/\v=F.app st):=by
 rintro j w ⟨p,f9,f3,q⟩ next f2 c2
 have s:=q.aV m;have e:=q.aV z;unfold rZ at d;split at d
 case h_2=>cases d
 rename_i id d5 H;split at d
 case h_2=>cases d
 rename_i ap Q;split at d
 case h_2=>cases d
 rename_i fn n bl a3;obtain⟨f0,a0,eq,ex,fl⟩:=lg.ok bl;split at d
 case h_2=>cases d
 rename_i t d0;split at d
 case h_2=>cases d
 rename_i fp d1;cases N:bb fn t with
 |false=>grind
 |true=>
 rw[N] at d;simp only[bG] at d;obtain⟨d4,co,f⟩:=eV.1 d;obtain⟨f8,k,i⟩:=eV.1 f;obtain⟨am,T,I⟩:=eV.1 i;clear d f i;cases d4 with
 |none=>cases k
 |some d6=>
 obtain⟨l,c⟩:=d6;rw[H] at s;rw[a3] at e;generalize S:j.eval m=ge at s;generalize cv:j.eval z=f7 at e;cases e with|val el=>
 obtain⟨_,rfl⟩:=el;cases s with|ref R O=>
 rw[Q] at R;cases R;obtain⟨b,A,L,rfl,f4,K,J,ci⟩:=q.Fs Q O (jc co);have:=O.ty;rw[d0] at this;cases this;obtain⟨f6,fT,fr,fs,ft,fz⟩:=wH (fl.lay N) d1;have d2:∀w,(akl a0).run E.P w=.ok (c0 t fT.cells.toList) w:=λw=>(by rw[<-ft];simp[akl,akA,fr,fs]);have U:=fz (be p C.B) w;obtain⟨G,f1,D,v,f5,ay,d7,d8,d9,ek⟩:=J.entry (P:=E.P) eq ex n U.len U d2;have c1:mR (α:=t.den) (Y (l,c)) n=gk l n:=rfl;rw[c1] at k I;simp only[yg,eZ] at k;subst k;generalize(bif (gk l n).isSome then c else c+1)=y at*;generalize(gk l n).getD fp=ad at*;obtain⟨em,a4,M⟩:=ci (d9 (λu z e=>⟨e,K u z e⟩)) ek (nw T);have ds:(bN j.eval o).run E.P w=.ok (.value (.tuple #[c0 t D,goInt ((v:X):Z)])) (gT w b G y):=(by simp only[bN,dg,S,cv,bW];have this:∀t:ah,c0 (.mp t) [alE (Y b)]=.map (Y b):=λ_=>rfl;rw[this,show c0 (.int .i64) [akg .i64 n]=.int .i64 n from rfl,ay];rfl);unfold ake;rw[ds];show next (j.put o.dst _) _
 rw[bx];have cs:aq ((id,(⟨ap.1,am⟩:aG))::del [id] st.h) id=Y ⟨ap.1,am⟩:=(by rw[di,aw bn]);have dl:aU (be p C.B) (gT w b G y) t D ad []:=d7.mono (λu z e=>⟨e,Gi (K u z e)⟩) ac;have ce:=ZA M (ac4 H) cs (ff.k9 (nw T)) S (oV J.h) d8 (n:=n) rfl;refine c2 _ _ _ ⟨_,I,?_⟩ rfl ⟨p,em,a4,M.put bs (av:=.fj [.val t ad,.ent id d5 n]) ?_⟩
 ·rfl
 refine .fj bn (λd3 av gc f i=>?_)
 match d3 with
 |0=>simp at f i;subst f;subst i;exact .val dl
 |1=>simp at f i;subst f;subst i;exact ce
 |n+2=>grind
theorem W3 {M:Type} {K:M} {u:cH->bv M} {i:bM} (fl:o.op=.entryStore r i n z) (av:o.dst=bo) (a:rM E.tt st.h r (aV st.g i) (aV st.g n) (aV st.g z) u=Y K):e6 E C o st (λn=>∃v,u v=Y K/\n=v.app st):=by
 rintro d w ⟨N,fz,em,e⟩ next el bx
 have s:=e.aV i;have m:=e.aV n;have q:=e.aV z;unfold rM at a;split at a
 case h_2=>cases a
 rename_i id ds cv d0 dl T R;cases f:(bH cv id&&mj d0 ds) with
 |false=>grind
 |true=>
 rw[f] at a;rw[bk] at f;obtain rfl:=fA f.1;obtain rfl:=mj.ok f.2;simp only[bG] at a;unfold oM at a;simp only at a;split at a
 case h_2=>cases a
 rename_i f7 p;split at a
 case h_2=>cases a
 rename_i d7 ft f6 f4 an y S;simp only[ak.val.injEq,heq_eq_eq,alz] at y;subst y;obtain⟨d8,ek,d5,d6,f0⟩:=lg.ok an;split at a
 case h_2=>cases a
 rename_i t ci;cases ap:bb d7 t with
 |false=>grind
 |true=>
 rw[ap] at a;simp only[bG] at a;split at a
 case h_2=>cases a
 rename_i f3 co;obtain⟨dg,a3,B⟩:=eV.1 a;obtain⟨fs,j,D⟩:=eV.1 B;obtain⟨f5,cs,V⟩:=eV.1 D;clear a B D;cases dg with
 |none=>cases j
 |some d1=>
 obtain⟨l,c⟩:=d1;cases kq co;rw[T] at s;rw[R] at m;rw[S] at q;generalize fr:d.eval i=f2 at s;generalize fn:d.eval n=fT at m;generalize fp:d.eval z=f1 at q;cases q with|val cX=>
 cases m with|ent J bs eq H a4 bl=>
 rw[p] at J;cases J;cases s with|ref I k=>
 rw[p] at I;cases I;obtain⟨b,A,L,rfl,ex,ad,F,a0⟩:=e.Fs p k (jc a3);have:=k.ty;rw[ci] at this;cases this;obtain⟨ao,_,x⟩:=k.kN bs;simp only[h4,Value.map.injEq,eZ,ca] at x;subst x;rw[nY.2 F.h] at H;cases H;obtain⟨Q,d9,ay,d2,d3⟩:=F.WY (P:=E.P) a4 bl d5 d6 cX.len cX;simp only[yg,eZ] at j;subst j;generalize(bif (gk l dl).isSome then c else c+1)=O at*;obtain⟨d4,U,am⟩:=a0 (d2 (λc2 c1 G=>⟨G,ad c2 c1 G⟩)) d3 (nw cs);unfold ake;have ce:(bN d.eval o).run E.P w=.ok .skip (gT w b Q O):=(by have this:∀t:ah,c0 (.mp t) [alE (Y b)]=.map (Y b):=λ_=>rfl;simp_all [bW,bN]);rw[ce];show next (d.put o.dst bV) _
 rw[av];refine bx _ _ _ ⟨_,V,?_⟩ rfl ⟨N,d4,U,am⟩;rfl
end
end
section
structure UT where
 c:cq
 n:X
 pin:bv aj5
 ds:aj5
 α:Type
 f:aQ->bv α
 g:aQ->α->aQ
structure gV where
 tt:bm (bF×ah)
 Gt:bm (X×jO)
 an:bm (X×ah)
 n:X
 pin:aj5
 kg:bm (X×ak)
 qB:aj7
 afi:bv dY
 az:ew
 aj0:bm UT
 vE:bm uK
 eq:ew
def y8 (b:bY) (c:bF):Prop:=∃a e d,b.info? c=Y a/\a.size=1/\a.zero=Y e/\e.cells.size=1/\b.underlying c=Y d/\(match d with|.struct _|.array _ _=>bq|_=>bp)=bp
def AP:bm hB->bm ak->bA
 |.c d _::a,.eA b _::as=>bH b d&&AP a as
 |.c _ _::_,_=>bp
 |_::a,_::as=>AP a as
 |_,_=>bq
def tD:bm (X×jO)->X->bm ak->bv jO
 |[],_,_=>bo
 |(k,F)::l,f,as=>bif bH k f&&(AP F.ps as&&(jM 0 F.ps).isNone) then Y F else tD l f as
theorem Jw:∀{e:bm (X×jO)} {c:X} {as:bm ak} {b:jO},tD e c as=Y b->∃d,(d,b)∈e
 |[],_,_,_,a=>by cases a
 |(d,G)::e,c,as,b,a=>by
  simp only[tD] at a;cases f:(bH d c&&(AP G.ps as&&(jM 0 G.ps).isNone)) with
  |true=>grind
  |false=>
   rw[f] at a;obtain⟨h,g⟩:=Jw a;grind
theorem Jx:∀{d:bm (X×jO)} {c:X} {as:bm ak} {b:jO},tD d c as=Y b->jM 0 b.ps=bo
 |[],_,_,_,a=>by cases a
 |(k,G)::d,c,as,b,a=>by
  simp only[tD] at a;cases e:(bH k c&&(AP G.ps as&&(jM 0 G.ps).isNone)) with
  |true=>
   simp_all
  |false=>
   rw[e] at a;exact Jx a
def vu (ic:gV) (a:nH) (b:a.den):aQ:=⟨ic.kg++oF a.g b,vt a.h (vv a.g b)⟩
def gA (b:X) (c:aj5) (a:X):bA:=b9 a b&&!(eX a c)
def ao (ic:gV) {A:Type} (a:bM->ak) (g:bm (X×aG)) (r:bR) (c:cH->bv A):bv A:=
 match r.dst with
 |none=>match r.op with
  |.store d e v=>sd ic.tt g d (a e) (a v) c
  |.mapUpdate d e o v=>oM ic.tt g d (a e) (a o) (a v) c
  |.insert d e o v=>oM ic.tt g d (a e) (a o) (a v) c
  |.entryStore d e F v=>rM ic.tt g d (a e) (a F) (a v) c
  |.call {callee:=.builtin .delete,args:=xs,argTypes:=s}=>match xs.toList,s.toList with
   |[e,o],[d,_]=>rY ic.tt g d (a e) (a o) c
   |_,_=>bo
  |_=>bo
 |some b=>
  bif gA ic.n ic.pin b then
  match r.op with
  |.pick y e i=>match a y with
   |.val .bool j=>(match a e,a i with
    |.val k u,.val H v=>match h7 (τ:=H) k v with
     |some v=>c ⟨Y (b,.val k (bif j then u else v)),[],[],[]⟩
     |none=>bo
    |u,v=>match j with
     |true=>c ⟨Y (b,u),[],[],[]⟩
     |false=>c ⟨Y (b,v),[],[],[]⟩)
   |_=>bo
  |.call {callee:=.value z,args:=xs,argTypes:=_}=>match a z with
   |.eA l m=>
    match tD ic.Gt l (xs.toList.map a++m) with
    |none=>bo
    |some h=>bif bH h.f l then
     kw g (se (xs.toList.map a++m) h.ps) h.ps (xs.toList.map a++m) λq=>(h.yL q).bind λj=>bif nO b ⟨[],g⟩ (xs.toList.map a++m) (gK h.ps q j) (jn h.rs (iE h.ps j)) then
      c ⟨Y (b,wj b (jn h.rs (iE h.ps j))),gw (xs.toList.map a++m) (gK h.ps q j),x6 (mP (xs.toList.map a++m) (gK h.ps q j)),kh (xs.toList.map a++m) (gK h.ps q j)++jo b (jl (jn h.rs (iE h.ps j))) 0 (jn h.rs (iE h.ps j))⟩ else bo
     else bo
   |_=>bo
  |.call {callee:=.builtin .append,args:=xs,argTypes:=s}=>match xs.toList,s.toList with
   |[e,i],[d,x]=>bif bH d x then oB ic.tt ic.an g b d (a e) (a i) c else bo
   |_,_=>bo
  |.call {callee:=.builtin .copy,args:=xs,argTypes:=s}=>match xs.toList,s.toList with
   |[e,i],[d,_]=>rA ic.tt g b d (a e) (a i) c
   |_,_=>bo
  |.assign e=>match a e with
   |.val k i=>c ⟨Y (b,.val k i),[],[],[]⟩
   |.eA l m=>c ⟨Y (b,.eA l m),[],[],[]⟩
   |.addr id E=>c ⟨Y (b,.addr id E),[],[],[]⟩
   |.dh v=>match aq ic.an b with
    |none=>c ⟨Y (b,.dh v),[],[],[]⟩
    |some k=>match k.pure&&qq k v with
     |true=>(i9 k v.cells.toList).bind λi=>c ⟨Y (b,.val k i),[],[],[]⟩
     |false=>(ql ic.an g b (.dh v)).bind c
   |v=>(ql ic.an g b v).bind c
  |.build d w=>sW ic.tt ic.an g a b d w.toList c
  |.mapEntry d e o=>rZ ic.tt g b d (a e) (a o) c
  |.box d e=>uR ic.tt ic.an g b d (a e) c
  |.buildSlice d C w=>sY ic.tt ic.an g a b d C w.toList c
  |_=>match kO ic.tt ic.an g a b r.op with
   |.e5 t=>c ⟨Y (b,t),[],[],[]⟩
   |.opt _ i l=>i.bind λp=>c ⟨Y (b,l p),[],[],[]⟩
   |.new _ i G B=>bif bH B b then i.bind λp=>c ⟨Y (b,.ref b []),[],[],[(b,G p)]⟩ else bo
   |.no=>match g5 ic.tt ic.an g a b r.op with
    |.e5 t D=>c ⟨Y (b,t),[],[],D⟩
    |.part _ I l=>(pick I).bind λp=>c ⟨Y (b,(l p).1),[],[],(l p).2⟩
    |.bad=>bo
  else bo
def nP (b:bm (X×aG)) (a:aj5):bA:=a.all λid=>match aq b id with|some c=>IS c.1|none=>bp
def ku (ic:gV) {A:Type} (e:bM->ak) (b:bm (X×aG)) (c:bR) (f:cH->bv A):bv A:=
 match mM ic.qB (vC c) e (sf c.op) with
 |[]=>ao ic e b c f
 |F=>bif nP b F then ao ic (λh=>iR b F (e h)) (del F b) c λa=>bif a.keep.all (λg=>!eX g.1 F) then f ⟨a.d,F++a.S,a.keep,a.put⟩ else bo else bo
def oK:hB->bA
 |.m _=>bq
 |_=>bp
def K7 (ic:gV) (a:bM->ak) (e:bR):bv (X×bm a6):=match e.op with
 |.call {callee:=.value z,args:=xs,argTypes:=_}=>match a z with
  |.eA d b=>match tD ic.Gt d (xs.toList.map a++b) with
   |some c=>uf (xs.toList.map a++b) (c.ps.map oK)
   |none=>bo
  |_=>bo
 |_=>bo
def Is (ic:gV) {A:Type} (id:X) (k:a6) (j:bm a6) (c:bM->ak) (l:bm (X×aG)) (p:bR) (r:cH->bv A):bv A:=
 match p.dst with
 |none=>bo
 |some g=>
  bif gA ic.n ic.pin g then
  match p.op with
  |.call {callee:=.value m,args:=xs,argTypes:=_}=>match c m with
   |.eA o d=>
    match tD ic.Gt o (xs.toList.map c++d) with
    |none=>bo
    |some a=>
     bif bH a.f o then
     match aq l id with
     |none=>bo
     |some h=>match fw h.1 (k::j) with
      |none=>bo
      |some i=>match h8 h.1 h.2 (k::j) i with
       |none=>bo
       |some q=>
        match fQ ((id,⟨i,q⟩)::del [id] l) (se (mY id (xs.toList.map c++d) (a.ps.map oK)) a.ps) a.ps (mY id (xs.toList.map c++d) (a.ps.map oK)) with
        |none=>bo
        |some e=>(a.yL e).bind λb=>bif nO g ⟨[],(id,⟨i,q⟩)::del [id] l⟩ (mY id (xs.toList.map c++d) (a.ps.map oK)) (gK a.ps e b) (jn a.rs (iE a.ps b))&&(eX id (gw (mY id (xs.toList.map c++d) (a.ps.map oK)) (gK a.ps e b))&&eX id (mP (mY id (xs.toList.map c++d) (a.ps.map oK)) (gK a.ps e b))) then
         match aq (kh (mY id (xs.toList.map c++d) (a.ps.map oK)) (gK a.ps e b)++jo g (jl (jn a.rs (iE a.ps b))) 0 (jn a.rs (iE a.ps b))) id with
         |none=>bo
         |some s=>match h7 i s.2 with
          |none=>bo
          |some t=>(mV h.1 h.2 (k::j) i t).bind λm=>
           r ⟨Y (g,wj g (jn a.rs (iE a.ps b))),gw (mY id (xs.toList.map c++d) (a.ps.map oK)) (gK a.ps e b),(id,k::j)::x6 (mP (mY id (xs.toList.map c++d) (a.ps.map oK)) (gK a.ps e b)),(id,⟨h.1,m⟩)::(kh (mY id (xs.toList.map c++d) (a.ps.map oK)) (gK a.ps e b)++jo g (jl (jn a.rs (iE a.ps b))) 0 (jn a.rs (iE a.ps b)))⟩
         else bo
     else bo
   |_=>bo
  |_=>bo
  else bo
def JW (ic:gV) (b:bM->ak) (c:bR):bv ej:=match c.dst,c.op with
 |some a,.binOp .eql d e g _=>match gZ ic.tt d,b e,b g with
  |some _,.val (.a8 _ h) f,.dh (.slice bo 0 0)=>bif gA ic.n ic.pin a then Y (a,cz (α:=h.den) f) else bo
  |_,_,_=>bo
 |_,_=>bo
def O3 (tt:bm (bF×ah)) (a:bF):bA:=match aq tt a with|some (.ptr _ _)=>bq|_=>bp
def JV (b:bm (X×aG)):ak->bv bA
 |.val (.ptr _ a) d=>Y (Option.isNone (α:=a.den) d)
 |.ref id c=>match aq b id with
  |some a=>match fw a.1 c with
   |some (.optr _)=>Y bp
   |_=>bo
  |none=>bo
 |_=>bo
def AQ:ah->bA
 |.nil=>bq
 |.pr (.int _) a=>AQ a
 |_=>bp
def tm:(a:ah)->a.den->a.den->bA
 |.pr (.int _) d,b,c=>((b.1:Z)==(c.1:Z))&&tm d b.2 c.2
 |_,_,_=>bq
def EJ (ic:gV) (e:bM->ak) (f:bR):bv (X×bA):=match f.dst,f.op with
 |some d,.binOp .eql c i j _=>match aq ic.tt c,e i,e j with
  |some h,.val (.st a) g,.val k b=>bif eX c ic.eq&&(AQ a&&(bb h (.st a)&&gA ic.n ic.pin d)) then(h7 (τ:=k) (.st a) b).map λb=>(d,tm a g b) else bo
  |_,_,_=>bo
 |_,_=>bo
def Bw (ic:gV) (c:bM->ak) (f:bm (X×aG)) (d:bR):bv (X×bA):=match d.dst,d.op with
 |some a,.binOp g e h i _=>match O3 ic.tt e,JV f (c h),c i with
  |true,Y b,.dh (.pointer bo)=>bif gA ic.n ic.pin a then(match g with
   |.eql=>Y (a,b)
   |.neq=>Y (a,!b)
   |_=>bo) else bo
  |_,_,_=>bo
 |_,_=>bo
def Lf (ic:gV) (f:bM->ak) (d:bR):bv (X×uK×Z):=match d.dst,d.op with
 |some c,.indexAddr e (.global h) g=>match ic.vE.find? (λa=>bH a.b h&&bH a.T e),f g with
  |some a,.val (.int _) i=>bif gA ic.n ic.pin c then Y (c,a,i) else bo
  |_,_=>bo
 |_,_=>bo
def i1 (ic:gV) {A:Type} (a:aQ) (b:bR) (c:aQ->bv A):bv A:=
 match Lf ic (aV a.g) b with
 |some (d,i,f)=>(ar i.xs f).bind λn=>c ⟨(d,.val (.ptr .bg (.int i.k)) (Y n))::a.g,a.h⟩
 |none=>match(Bw ic (aV a.g) a.h b).or (EJ ic (aV a.g) b) with
 |some (d,j)=>c ⟨(d,.val .bool j)::a.g,a.h⟩
 |none=>match JW ic (aV a.g) b with
 |some (d,f)=>r1 f (c ⟨(d,.val .bool bq)::a.g,a.h⟩) (c ⟨(d,.val .bool bp)::a.g,a.h⟩)
 |none=>match K7 ic (aV a.g) b with
  |some (id,m::l)=>Is ic id m l (aV a.g) a.h b λe=>c (e.app a)
  |_=>ku ic (aV a.g) a.h b λe=>c (e.app a)
def la (ic:gV) {A:Type} (c:bT bR):aj5->aQ->(aQ->bv A)->bv A
 |[],a,b=>b a
 |i::e,a,b=>match c[i]? with
  |none=>bo
  |some f=>match f.guard with
   |none=>i1 ic a f λk=>la ic c e k b
   |some (
    l,ui)=>match(c[l]?).bind (·.dst),f.dst with
    |some j,Y d=>match gt a.g j with
     |.val .bool m=>bif gA ic.n ic.pin d then
      (match m==ui with
      |true=>i1 ic ⟨(j,.val .bool ui)::a.g,a.h⟩ f λk=>la ic c e k b
      |false=>la ic c e ⟨(d,.dh bV)::(j,.val .bool (!ui))::a.g,a.h⟩ b) else bo
     |.dh (.tuple _)=>bif gA ic.n ic.pin d then la ic c e ⟨(d,.dh bV)::a.g,a.h⟩ b else bo
     |_=>bo
    |_,_=>bo
section
variable {E:fF} {C:e4} {ic:gV} {A:Type}
def gV.ae (E:fF) (C:e4) (ic:gV):Prop:=ic.tt=E.tt/\ic.n=C.n/\ic.pin=C.pin/\((∀b∈ic.Gt,aC E b.2)/\uJ C ic.afi/\(∀a∈ic.az,y8 E.P a)/\lv E C.I0 C.w0/\ic.vE=E.glob/\ic.eq=E.eqs)/\pX C ic.kg
theorem gA.ok (b:ic.ae E C) {d:X} (a:gA ic.n ic.pin d=bq):C.ok d:=by obtain⟨_,c,e,_,_⟩:=b;rw[c,e] at a;simp only[gA,bk] at a;exact⟨gX a.1,λf=>by grind [hk]⟩
def gM.same {e:ev} {d:aQ} (l:∀b,gt d.g b=gt i.g b) (c:d.h=i.h) (k:gM C i e v):gM C d e v:=by obtain⟨f,m,j,a⟩:=k;exact⟨f,m,j,{a with tree:=by rw[c];exact a.tree,dis:=by rw[c];exact a.dis,tmp:=λb=>by rw[c,l];exact a.tmp b}⟩
def iw.same {f:bT bR} {e:aj5} {a b:aQ} {c:aQ->Prop} (l:∀d,gt b.g d=gt a.g d) (m:b.h=a.h) (j:iw E C f e b c):iw E C f e a c:=
 λi n k=>j i n (k.same l m)
def cH.Ms {b:bm (X×bm a6)}:(cH.mk (Y (a,d)) f b e).app i=⟨(a,d)::akm f b i.g,e++del f i.h⟩:=by show aQ.mk ((a,d)::nX f b i.g) (e++rI f i.h)=_;rw[tz,xQ]
theorem NW (L:ic.ae E C) {l:bR} {st:aQ} {o:cH->bv A} {s:A} (a:ao ic (aV st.g) st.h l o=Y s):e6 E C l st (λv=>∃c,o c=Y s/\v=c.app st):=by
 obtain⟨B,d8,d9,dl,_⟩:=id L;unfold ao at a;split at a
 ·rename_i i;split at a
  ·grind [afv,afu]
  ·grind [P7]
  ·rename_i p b ad ap e;rw[B] at a;exact P7 (.inr e) i a
  ·grind [W3]
  ·rename_i x H e;split at a
   case h_2=>cases a
   rename_i b ad p a3 ao S;rw[B] at a;obtain rfl:x=#[b,ad]:=(by grind);obtain rfl:H=#[p,a3]:=(by grind);grind [Zu]
  grind
 rename_i z i;cases U:gA ic.n ic.pin z with
 |false=>grind
 |true=>
 rw[U] at a;have j:=gA.ok L U;simp only[bG] at a;split at a
 ·rename_i d5 b m e;split at a
  case h_2=>cases a
  rename_i q K;have d6:∀y,(q=bq->y=aV st.g b)->(q=bp->y=aV st.g m)->o ⟨Y (z,y),[],[],[]⟩=Y s->e6 E C l st (λv=>∃c,o c=Y s/\v=c.app st):=by
   clear a;intro y ce ci u;refine akW (an:=ic.an) i j ?_;rw[e];simp only[g5,FT,K];refine⟨q,bn,_,u,?_⟩;cases q
   ·rw[ci bn];rfl
   rw[ce bn];rfl
  split at a
  ·rename_i d4 fl fp ap ek V;split at a
   case h_2=>cases a
   rename_i d3 ds;cases kq ds;grind
  grind
 ·rename_i fn x _ e;split at a
  case h_2=>cases a
  rename_i J am d1;split at a
  ·cases a
  rename_i I co;cases r:bH I.f J with
  |false=>grind
  |true=>
  rw[r] at a;obtain rfl:=fA r;simp only[bG,nV] at a;obtain⟨d,d7,a⟩:=eV.1 a;obtain⟨q,dg,a⟩:=eV.1 a;cases K:nO z ⟨[],st.h⟩ (x.toList.map (aV st.g)++am) (gK I.ps d q) (jn I.rs (iE I.ps q)) with
  |false=>grind
  |true=>
  rw[K] at a;obtain⟨el,c2⟩:=Jw co;obtain⟨cv,c1⟩:=dl.1 _ c2;refine e6.call e d1 i j cv (c1 d q dg) (by grind [Jx,BL]) L.2.2.2.2.1 L.2.2.2.1.2.2.2.1 ?_ K ⟨_,a,?_⟩
  ·grind [qC,Lh]
  rw[cH.Ms];rfl
 ·rename_i x H e;split at a
  case h_2=>cases a
  rename_i b m p N ao S;cases r:bH p N with
  |false=>grind
  |true=>
  rw[r] at a;obtain rfl:=fA r;have bl:x=#[b,m]:=(by grind);have bs:H=#[p,p]:=(by grind);grind [Vh]
 ·rename_i x H e;split at a
  case h_2=>cases a
  rename_i b m p N ao S;have bl:x=#[b,m]:=(by grind);have bs:H=#[p,N]:=(by grind);grind [e6.copy]
 ·rename_i b e;have O:Jc (aV st.g b)=bq->o ⟨Y (z,aV st.g b),[],[],[]⟩=Y s->e6 E C l st (λv=>∃c,o c=Y s/\v=c.app st):=λV u=>by
   refine akW (an:=ic.an) i j ?_;rw[e];simp only[g5,V,bG];exact⟨_,u,bn⟩
  have as:(ql ic.an st.h z (aV st.g b)).bind o=Y s->e6 E C l st (λv=>∃c,o c=Y s/\v=c.app st):=λu=>(by obtain⟨c,cs,u⟩:=eV.1 u;exact e6.Vo e i j (Vp cs ⟨c,u,bn⟩));split at a
  ·rename_i d4 m t;exact O (by rw[t];rfl) (by grind)
  ·rename_i J am t;exact O (by rw[t];rfl) (by grind)
  ·rename_i id eq t;rintro d w ⟨a0,d2,bx,D⟩ next a4 Q
   have M:=D.aV b;have R:(bN d.eval l).run E.P w=.ok (.value (d.eval b)) w:=(by simp[bN,e]);unfold ake;rw[R];show next (d.put l.dst (d.eval b)) w
   rw[i];refine Q _ _ _ ⟨_,a,bn⟩ rfl ⟨_,_,_,D.put j ?_⟩;grind
  ·rename_i ap t;split at a
   ·exact O (by rw[t];rfl) (by grind)
   split at a
   ·rename_i T;simp only[bk] at T;obtain⟨m,d0,a⟩:=eV.1 a;rintro d w ⟨a0,d2,bx,D⟩ next a4 Q
    have M:=D.aV b;have R:(bN d.eval l).run E.P w=.ok (.value (d.eval b)) w:=(by simp[bN,e]);unfold ake;rw[R];show next (d.put l.dst (d.eval b)) w
    rw[i];refine Q _ _ _ ⟨_,a,bn⟩ rfl ⟨_,_,_,D.put j ?_⟩;rw[t] at M;generalize d.eval b=d3 at M;cases M;rw[<-qq.ok T.2];exact .val (qp d0)
   grind
  grind
 ·grind [VB]
 ·grind [ZB]
 ·grind [VE]
 ·grind [VI]
 split at a
 ·rename_i y k;refine akW (an:=ic.an) i j ?_;rw[<-B];exact Iy (by rw[k];exact⟨_,a,bn⟩)
 ·rename_i av m J k;refine akW (an:=ic.an) i j ?_;rw[<-B];obtain⟨G,F,a⟩:=eV.1 a;exact Iy (by rw[k];exact⟨G,F,_,a,bn⟩)
 ·rename_i av m ex c k;cases r:bH c z with
  |false=>grind
  |true=>
  rw[r] at a;obtain rfl:=fA r;obtain⟨G,F,a⟩:=eV.1 a;refine akW (an:=ic.an) i j ?_;rw[<-B];exact Iy (by rw[k];exact⟨G,F,_,a,bn⟩)
 refine akW (an:=ic.an) i j ?_;rw[B] at a;split at a
 ·rename_i y em k;rw[k];exact⟨_,a,bn⟩
 ·rename_i av fr J k;rw[k];obtain⟨G,F,a⟩:=eV.1 a;exact⟨G,adt F,_,a,bn⟩
 grind
theorem e6.mono {P:aQ->Prop} (e:e6 E C h i P) (j:∀a,P a->u a):e6 E C h i u:=
 λc l f next b g=>e c l f next b (λa d m k=>g a d m (j a k))
theorem aeH (b:lh g d=bq):∃id,d.ids=[id]/\∃a∈g,a.1=id:=by
 have e:∀(id:X) (f:X×bm a6->bA),(g.any λa=>bH a.1 id&&f a)=bq->∃a∈g,a.1=id:=(by intro id f k;obtain⟨a,h,i⟩:=pY.1 k;simp only[bk] at i;grind [akR]);cases d with
 |ref id c=>
  cases c with
  |nil=>
   obtain⟨a,h,j⟩:=pY.1 (show(g.any λa=>bH a.1 id)=bq from b);exact⟨id,bn,a,h,fA j⟩
  |cons n c=>exact⟨id,bn,e id _ b⟩
 |addr id c=>exact⟨id,bn,e id _ b⟩
 |view id c m l=>exact⟨id,bn,e id _ b⟩
 |_=>cases b
theorem GA:d.fx (f++w)=(d.fx f||d.fx w):=by simp only[akh];rw[wK];simp only[pY,jx];grind [hk,anV,amX]
theorem Nf {b:bm ak}:(ak.eA a b).fx f=b.any λc=>c.fx f:=by
 show(ak8 b).any _=_
 induction b with
 |nil=>rfl
 |cons c b d=>grind [ak8,akh]
theorem Sd (b:d.fx w=bp):kx (w++f) g d=kx f g d:=by
 cases d with
 |eA m p=>
  rw[Nf,uw] at b;rw[wK];simp only[kx,g0];constructor<;>intro i e h<;>have:=i e h<;>rw[GA,Bool.eq_false_iff.2 (b e h)] at*<;>simpa using this
 |app id q s r c=>
  have j:=Lt b;have o:∀a∈c,eX a (w++f)=eX a f:=λa k=>(by have n:a∉w:=j a (gC _ k);rw[wK,hk,hk,hn];grind);have l:(c.all λa=>!(eX a (w++f)))=c.all λa=>!(eX a f):=(by grind);grind [kx]
 |_=>rfl
theorem Yx {F S:aj5} {keep:bm (X×bm a6)} {a:ak}:fh (F++S) keep a=.dead\/(a.fx F=bp/\fh (F++S) keep a=fh S keep a)\/(kx (F++S) keep a=bq/\fh (F++S) keep a=a):=by grind [Sd,GA,kx,fh]
theorem nP.ok (b:nP e f=bq):∀id∈f,∃a,aq e id=Y a/\IS a.1=bq:=by intro id c;have:=g0.1 b id c;grind
theorem NY (bx:ic.ae E C) {L:bR} {O:cH->bv A} {am:A} (e:ku ic (aV i.g) i.h L O=Y am):e6 E C L i (λN=>∃b,O b=Y am/\N=b.app i):=by
 unfold ku at e;split at e
 ·grind [NW]
 generalize mM ic.qB (vC L) (aV i.g) (sf L.op)=c at e;cases T:nP i.h c with
 |false=>grind
 |true=>
 rw[T] at e;simp only[bG] at e;rw[<-XP c i] at e;have m:=NW (st:=ts c i) bx e;intro j c1 M next an ci
 obtain⟨dg,d5,dl,M⟩:=M;refine m j c1 (M.freeze (nP.ok T)) next an (λd6 ap c2 cs bl a0=>?_)
 obtain⟨b,U,rfl⟩:=cs;cases V:b.keep.all (λl=>!eX l.1 c) with
 |false=>grind
 |true=>
 rw[V] at U;have V:∀l∈b.keep,l.1∉c:=λl q ce=>(by grind [hk,alg]);refine ci _ ap c2 ⟨_,U,bn⟩ bl (a0.Pn ?_ ?_)
 ·intro B;have r:∀j:ak,fh (c++b.S) b.keep j=.dead\/fh (c++b.S) b.keep j=fh b.S b.keep (gY i.h c j):=by
   intro j;rcases Yx (F:=c) (S:=b.S) (keep:=b.keep) (a:=j) with e|⟨m,y⟩|⟨m,y⟩
   ·grind
   ·right;rw[y];rcases mL i.h c j with⟨id,p,rfl,cv,_⟩|⟨_,o⟩|⟨o,_⟩
    ·grind [hk,akh,bS]
    ·grind
    grind
   have co:∀(id:X),(∃k∈b.keep,k.1=id)->eX id c=bp:=λid ⟨k,z,b⟩=>(by grind);have u:kx (c++b.S) b.keep j=kx b.S b.keep j->∀(id:X),j.ids=[id]->(∃k∈b.keep,k.1=id)->fh (c++b.S) b.keep j=.dead\/fh (c++b.S) b.keep j=fh b.S b.keep (gY i.h c j):=by
    intro d0 id d2 z;have ad:j.fx c=bp:=(by grind [akh]);right;rcases mL i.h c j with⟨l,p,rfl,cv,_⟩|⟨_,o⟩|⟨o,_⟩
    ·grind [hk,akh,bS]
    ·grind
    grind [fh,kx]
   have w:∀(id:X) (P:X×bm a6->bA),(b.keep.any λk=>bH k.1 id&&P k)=bq->∃k∈b.keep,k.1=id:=(by intro id P bs;obtain⟨k,z,y⟩:=pY.1 bs;simp only[bk] at y;grind [akR]);cases j with
   |ref id f=>
    cases f with
    |nil=>
     obtain⟨k,z,G⟩:=pY.1 (show(b.keep.any λk=>bH k.1 id)=bq from m);exact u bn id bn ⟨k,z,fA G⟩
    |cons N f=>exact u bn id bn (w id _ m)
   |addr id f=>exact u bn id bn (w id _ m)
   |view id f D q=>exact u bn id bn (w id _ m)
   |eA t n=>
    have a3:=g0.1 m;have ad:(ak.eA t n).fx c=bp:=(by rw[Nf,uw];grind [aeH,GA,id,akh,ao]);right;rcases mL i.h c (.eA t n) with⟨l,p,ay,_⟩|⟨_,o⟩|⟨o,_⟩
    ·cases ay
    ·grind
    rw[o,y];unfold fh;have ds:kx b.S b.keep (.eA t n)=bq:=g0.2 λav a4=>(by have G:=a3 av a4;rw[GA,Bool.not_or,jx,bk] at G;grind);grind
   |app id f v x s=>
    have R:((s.all λl=>!(eX l (c++b.S)))&&b.keep.any λk=>bH k.1 id&&k6 k.2 f)=bq:=m;rw[bk] at R;have d1:=co id (w id _ R.2);have ad:(ak.app id f v x s).fx c=bp:=by
     unfold akh;rw[uw];intro l q ce;rcases fC.1 (show l∈id::s from q) with rfl|q
     ·grind
     grind [alg,hk,anV]
    right;rcases mL i.h c (.app id f v x s) with⟨l,p,ay,_⟩|⟨_,o⟩|⟨o,_⟩
    ·cases ay
    ·grind
    grind [Sd,fh]
   |hG j=>
    have m:lh b.keep j=bq:=m;cases j with
    |ref id f=>
     cases f with
     |nil=>
      obtain⟨k,z,G⟩:=pY.1 (show(b.keep.any λk=>bH k.1 id)=bq from m);exact u bn id bn ⟨k,z,fA G⟩
     |cons N f=>exact u bn id bn (w id _ m)
    |addr id f=>exact u bn id bn (w id _ m)
    |view id f D q=>exact u bn id bn (w id _ m)
    |_=>cases m
   |_=>cases m
  have d3:∀j:ak,y0 (fK (c++b.S) b.keep j) (fK b.S b.keep (iR i.h c j)):=by
   intro j;cases j with
   |fj n=>
    refine .inr (.inr ⟨_,_,bn,bn,ac,λl k d8 m y=>?_⟩);grind
   |ref id f=>
    have o:=r (.ref id f);have ao:fK b.S b.keep (iR i.h c (.ref id f))=fh b.S b.keep (gY i.h c (.ref id f)):=by show fK b.S b.keep (gY i.h c (.ref id f))=_;rcases mL i.h c (.ref id f) with⟨l,p,_,_,_,e⟩|⟨e,_⟩|⟨e,_⟩<;>rw[e]<;>first|rfl|grind [XQ]
    rw[ao];exact o.imp (λe=>e) .inl
   |dead=>exact(r .dead).imp (λe=>e) .inl
   |val v k=>exact .inr (.inl (by
    simp[fh,gY,iR,fK,akh,bS]))
   |dh d7=>exact .inr (.inl (by
    simp[fh,gY,iR,fK,akh,bS]))
   |addr id f=>
    have ao:fK b.S b.keep (iR i.h c (.addr id f))=fh b.S b.keep (gY i.h c (.addr id f)):=by show fK b.S b.keep (gY i.h c (.addr id f))=_;rcases mL i.h c (.addr id f) with⟨l,p,_,_,_,e⟩|⟨e,_⟩|⟨e,_⟩<;>rw[e]<;>first|rfl|grind
    rw[ao];exact(r _).imp (λe=>e) .inl
   |view id f D q=>
    have ao:fK b.S b.keep (iR i.h c (.view id f D q))=fh b.S b.keep (gY i.h c (.view id f D q)):=by show fK b.S b.keep (gY i.h c (.view id f D q))=_;rcases mL i.h c (.view id f D q) with⟨l,p,_,_,_,e⟩|⟨e,_⟩|⟨e,_⟩<;>rw[e]<;>first|rfl|grind
    rw[ao];exact(r _).imp (λe=>e) .inl
   |ent id f K=>
    have ao:fK b.S b.keep (iR i.h c (.ent id f K))=fh b.S b.keep (gY i.h c (.ent id f K)):=by show fK b.S b.keep (gY i.h c (.ent id f K))=_;rcases mL i.h c (.ent id f K) with⟨l,p,_,_,_,e⟩|⟨e,_⟩|⟨e,_⟩<;>rw[e]<;>first|rfl|grind
    rw[ao];exact(r _).imp (λe=>e) .inl
   |app id f v x s=>
    have ao:fK b.S b.keep (iR i.h c (.app id f v x s))=fh b.S b.keep (gY i.h c (.app id f v x s)):=by show fK b.S b.keep (gY i.h c (.app id f v x s))=_;rcases mL i.h c (.app id f v x s) with⟨l,p,_,_,_,e⟩|⟨e,_⟩|⟨e,_⟩<;>rw[e]<;>first|rfl|grind
    rw[ao];exact(r _).imp (λe=>e) .inl
   |agg n=>
    have ao:fK b.S b.keep (iR i.h c (.agg n))=fh b.S b.keep (gY i.h c (.agg n)):=by show fK b.S b.keep (gY i.h c (.agg n))=_;rcases mL i.h c (.agg n) with⟨l,p,_,_,_,e⟩|⟨e,_⟩|⟨e,_⟩<;>rw[e]<;>first|rfl|grind
    rw[ao];exact(r _).imp (λe=>e) .inl
   |eA t n=>
    have ao:fK b.S b.keep (iR i.h c (.eA t n))=fh b.S b.keep (gY i.h c (.eA t n)):=by show fK b.S b.keep (gY i.h c (.eA t n))=_;rcases mL i.h c (.eA t n) with⟨l,p,_,_,_,e⟩|⟨e,_⟩|⟨e,_⟩<;>rw[e]<;>first|rfl|grind
    rw[ao];exact(r _).imp (λe=>e) .inl
   |hG j=>
    have ao:fK b.S b.keep (iR i.h c (.hG j))=fh b.S b.keep (gY i.h c (.hG j)):=by show fK b.S b.keep (gY i.h c (.hG j))=_;rcases mL i.h c (.hG j) with⟨l,p,_,_,_,e⟩|⟨e,_⟩|⟨e,_⟩<;>rw[e]<;>first|rfl|grind
    rw[ao];exact(r _).imp (λe=>e) .inl
  show y0 (gt (cH.app ⟨b.d,c++b.S,b.keep,b.put⟩ i).g B) (gt (b.app (ts c i)).g B);obtain⟨J,H,I,d4⟩:=b;cases J with
  |none=>
   show y0 (gt (nX (c++H) I i.g) B) (gt (nX H I (ts c i).g) B);grind [tz,qD,EZ]
  |some o=>
   obtain⟨J,Q⟩:=o;show y0 (gt ((J,Q)::nX (c++H) I i.g) B) (gt ((J,Q)::nX H I (ts c i).g) B);rw[jk,jk];split
   ·exact .inr (.inl bn)
   grind [tz,qD,EZ]
 intro id;show aq (b.put++rI (c++b.S) i.h) id=aq (b.put++rI b.S (del c i.h)) id;grind [xQ,kR,nl]
theorem WM (m:ic.ae E C) {p:bR} {id:X} {k:a6} (bs:K7 ic (aV i.g) p=Y (id,k::j)) {q:cH->bv A} {y:A} (a:Is ic id k j (aV i.g) i.h p q=Y y):e6 E C p i (λk=>∃r,q r=Y y/\k=r.app i):=by
 have R:=λc=>gA.ok m (d:=c);have M:=m.2.2.2.2.1;have N:=m.2.2.2.1.2.2.2.1;obtain⟨bx,_,_,V,_⟩:=m;unfold Is at a;split at a
 ·cases a
 rename_i c I;cases w:gA ic.n ic.pin c with
 |false=>grind
 |true=>
 rw[w] at a;have J:=R c w;simp only[bG] at a;split at a
 case h_2=>cases a
 rename_i a4 B cv P;split at a
 case h_2=>cases a
 rename_i F x an;split at a
 ·cases a
 rename_i b G;cases u:bH b.f F with
 |false=>grind
 |true=>
 rw[u] at a;obtain rfl:=fA u;simp only[bG] at a;split at a
 ·cases a
 rename_i co T;split at a
 ·cases a
 rename_i a3 ce;split at a
 ·cases a
 rename_i av ad;split at a
 ·cases a
 rename_i l bl;obtain⟨e,Q,a⟩:=eV.1 a;have S:uf (B.toList.map (aV i.g)++x) (b.ps.map oK)=Y (id,k::j):=(by grind [K7]);generalize H:mY id (B.toList.map (aV i.g)++x) (b.ps.map oK)=o at*;cases v:nO c ⟨[],(id,⟨a3,av⟩)::del [id] i.h⟩ o (gK b.ps l e) (jn b.rs (iE b.ps e)) with
 |false=>grind
 |true=>
 rw[v] at a;cases s:eX id (gw o (gK b.ps l e)) with
 |false=>grind
 |true=>
 rw[s] at a;cases t:eX id (mP o (gK b.ps l e)) with
 |false=>grind
 |true=>
 rw[t] at a;simp only[Bool.and_self,bG] at a;split at a
 ·cases a
 rename_i cs U;split at a
 ·cases a
 rename_i D am;obtain⟨a0,ap,a⟩:=eV.1 a;obtain⟨ci,O⟩:=Jw G;obtain⟨K,L⟩:=V.1 _ O;refine e6.sub P an I J K (L l e Q) (by grind [Jx,BL]) M N T (jc ad) S H.symm ?_ v (hk.1 s) (hk.1 t) (y':=D) (z:=a0) ?_ (nw ap) ⟨_,a,?_⟩
 ·grind [qC,Lh]
 ·rw[U];exact b6 Y (kq am)
 rw[cH.Ms]
def aeV (b:bC) (e:X) (a:bv Addr) (g d:X) (f:p.underlying c=Y (.slice r)):(alh (e+1) c (.slice a g d) (.slice bo 0 0)).run p b=.ok a.isNone b:=by cases a<;>simp[alh,b7 f]
theorem aeT (b:bC) (a:bv Addr) (e d:X) (f:p.underlying c=Y (.slice r)):(akf .eql c (.slice a e d) (.slice bo 0 0)).run p b=.ok (.bool a.isNone) b:=by simp_all [aeV,al6,al7,akf]
theorem ZW (s:ic.ae E C) {x:bR} (b:JW ic (aV i.g) x=Y (a,m)):e6 E C x i (λR=>∃c:bA,R=⟨(a,.val .bool c)::i.g,i.h⟩/\(c=bq->m=0)):=by
 unfold JW at b;split at b
 case h_2=>cases b
 rename_i D A j k a3 H J;split at b
 case h_2=>cases b
 rename_i a0 ap z y r F G;cases t:gA ic.n ic.pin D with
 |false=>grind
 |true=>
 rw[t] at b;simp only[bG,eZ,iy] at b;obtain⟨rfl,rfl⟩:=b;rw[s.1] at r;obtain⟨_,T,_,K,_⟩:=gZ.ok r;rintro e f ⟨S,av,V,l⟩ next U an
 have o:=l.aV j;have p:=l.aV k;rw[F] at o;rw[G] at p;obtain⟨d,u⟩:∃d,d=e.eval j:=⟨_,bn⟩;obtain⟨fe,w⟩:∃d,d=e.eval k:=⟨_,bn⟩;rw[<-u] at o;rw[<-w] at p;cases o with|val O=>cases p with|dh _=>
 obtain⟨_,c,q,rfl,ad,am,_⟩:=O;have L:e.eval j=.slice c (cz (α:=z.den) y) q:=u.symm;have M:e.eval k=.slice bo 0 0:=w.symm;have I:∀f,(ak6 .eql A j k (.slice c (cz (α:=z.den) y) q) (.slice bo 0 0)).run E.P f=.ok () f:=λf=>(by unfold ak6;simp);refine aml (Q:=λB N=>B=.val .bool c.isNone/\N=[]) l (.pure (v:=.bool _) (by simp only[bN,J,L,M,bW,I,b1,aeT _ _ _ _ K];rfl) (.bool _) ⟨bn,bn⟩) H (gA.ok s t) ?_;grind
def afO {d:X} {f:cr} (i:E.P.underlying r=Y (.array d c)) (g:fo E.P (.int f) c) {b:Act} (k:h.op=.indexAddr r (.global m) n) {p:cr} (j:b.eval n=.int p a) (q:a<d):(bN b.eval h).run E.P v=.ok (.value (.pointer (Y ⟨m,0+a*1,bo⟩))) v:=by have e:=g.sizeOf v;have o:b.eval (.global m)=.pointer (Y ⟨m,0,bo⟩):=rfl;have:(0:Z)<=(a:Z)/\(a:Z)<(d:Z):=⟨aa,aa⟩;have l:(ah.int f).size=1:=rfl;rw[l] at e;simp[bN,k,o,j,Instr.indexAt,alA,ali,b7 i,this,e,ak5];omega
theorem afK (e:ic.ae E C) {A:bR} {r:uK} {z f:Z} (c:Lf ic (aV i.g) A=Y (a,r,z)) (V:ar r.xs z=Y f):e6 E C A i (λap=>ap=⟨(a,.val (.ptr .bg (.int r.k)) (Y f))::i.g,i.h⟩):=by
 unfold Lf at c;split at c
 case h_2=>cases c
 rename_i F a3 co p R S;split at c
 case h_2=>cases c
 rename_i d y q v M;cases w:gA ic.n ic.pin F with
 |false=>grind
 |true=>
 rw[w] at c;simp only[bG,eZ,iy] at c;obtain⟨rfl,rfl,rfl⟩:=c;have l:=List.find?_some v;have o:=GX v;rw[bk] at l;obtain rfl:=fA l.1;obtain rfl:=fA l.2;rw[e.2.2.2.1.2.2.2.2.1] at o;obtain⟨a0,P,O⟩:=E.gok d o;rintro s dl ⟨av,c2,ce,j⟩ next a4 ci
 have m:=j.aV p;rw[M] at m;generalize T:s.eval p=dg at m;cases m with|val an=>
 obtain⟨_,rfl⟩:=an;obtain⟨ao,K,L⟩:=OE V;obtain⟨_,bl,bx,u,ay,c1,B⟩:=j.glob e.2.2.2.2.1 e.2.2.2.1.2.2.2.1 d o;simp only[h4,aka,ca] at u;obtain⟨rfl,_⟩:=u;rcases B with B|⟨bs,cv,t,N,am⟩
 ·grind
 simp only[eZ,akq,ca] at t;obtain⟨rfl,rfl⟩:=t;obtain⟨J,G,H,I⟩:=am _ _ L;have U:s.eval p=.int y (q.toNat:X):=(by rw[T];show akg y q=_;grind);refine aml (Q:=λD ad=>D=.val (.ptr .bg (.int d.k)) (Y f)/\ad=[]) j (.pure (afO P O S U K) (.val (τ:=.ptr .bg (.int d.k)) (x:=Y f) (cs:=[.pointer (Y ⟨d.b,0+q.toNat*1,bo⟩)]) ⟨bn,d.b,_,J,bn,N,G,H,I⟩) ⟨bn,bn⟩) R (gA.ok e w) ?_;grind
def Sl (b:bC) (d:X) (a:bv Addr) (e:p.underlying c=Y (.pointer r)):(alh (d+1) c (.pointer a) (.pointer bo)).run p b=.ok a.isNone b:=by cases a<;>simp[alh,b7 e]
theorem aeU (b:bC) (a:bv Addr) (d:p.underlying c=Y (.pointer r)):(akf .eql c (.pointer a) (.pointer bo)).run p b=.ok (.bool a.isNone) b:=by simp_all [Sl,al6,al7,akf]
theorem aeW (b:bC) (a:bv Addr) (d:p.underlying c=Y (.pointer r)):(akf .neq c (.pointer a) (.pointer bo)).run p b=.ok (.bool (!a.isNone)) b:=by simp_all [Sl,al6,al7,akf]
theorem ZS {f:Act} (m:cK C i f.tmps v N O x) {c:bA} (a:JV i.h (aV i.g n)=Y c):∃l:bv Addr,f.eval n=.pointer l/\l.isNone=c:=by
 have b:=m.aV n;obtain⟨v1,d⟩:∃k,k=f.eval n:=⟨_,bn⟩;rw[<-d] at b;unfold JV at a;split at a
 ·rename_i B y k j;rw[j] at b;cases b with|val e=>
  obtain⟨_,e⟩:=e;cases a;cases k with
  |none=>subst e;exact⟨bo,d.symm,bn⟩
  |some F=>obtain⟨r,u,s,rfl,_⟩:=e;exact⟨Y ⟨r,u,bo⟩,d.symm,bn⟩
 ·rename_i id D j;split at a
  case h_2=>cases a
  rename_i y p;split at a
  case h_2=>cases a
  rename_i E t;cases a;rw[j] at b;cases b with|ref q o=>
  rw[p] at q;cases q;have:=o.ty;rw[t] at this;cases this;obtain⟨c,w,s,rfl,z,A⟩:=pE (m.tree id _ p).1 o;exact⟨Y ⟨c,w,bo⟩,d.symm,bn⟩
 grind
theorem adH (p:ic.ae E C) {F:bR} {m:bA} (b:Bw ic (aV i.g) i.h F=Y (a,m)):e6 E C F i (λO=>O=⟨(a,.val .bool m)::i.g,i.h⟩):=by
 unfold Bw at b;split at b
 case h_2=>cases b
 rename_i J d k R f av u y;split at b
 case h_2=>cases b
 rename_i I o K L;cases q:gA ic.n ic.pin J with
 |false=>grind
 |true=>
 rw[q] at b;simp only[bG] at b;have M:∃j,E.P.underlying k=Y (.pointer j):=by
  rw[p.1] at o;unfold O3 at o;split at o
  ·rename_i am ap N;obtain⟨_,j,_,_,_,_,V,_⟩:=E.ok k _ N;grind
  grind
 obtain⟨j,z⟩:=M;rintro t e ⟨S,an,U,c⟩ next T ad
 have r:=c.aV f;rw[L] at r;obtain⟨fe,B⟩:∃G,G=t.eval f:=⟨_,bn⟩;rw[<-B] at r;cases r with|dh _=>
 obtain⟨H,A,x⟩:=ZS c K;have D:t.eval f=.pointer bo:=B.symm;have w:∀d e,(ak6 d k R f (.pointer H) (.pointer bo)).run E.P e=.ok () e:=λd e=>(by unfold ak6;cases d<;>simp);split at b
 ·cases b;refine aml (Q:=λl s=>l=.val .bool m/\s=[]) c (.pure (v:=.bool _) (by simp only[bN,y,A,D,bW,w,b1,aeU _ _ z,x];rfl) (.bool _) ⟨bn,bn⟩) u (gA.ok p q) ?_;grind
 ·cases b;refine aml (Q:=λl s=>l=.val .bool (!I)/\s=[]) c (.pure (v:=.bool _) (by simp only[bN,y,A,D,bW,w,b1,aeW _ _ z,x];rfl) (.bool _) ⟨bn,bn⟩) u (gA.ok p q) ?_;grind
 grind
def N9 {P:bY} {M:eE->X->Prop} {w w0:bC} {d:X}:∀{t:ah} {fs:bm akr} {off:X} {b:ey} {xs ys:ev} {p q:t.den},AQ t=bq->iV P t fs off b->(fs.all λf=>f.name !="_")=bq->aU M w0 t (xs.toList.drop off) p []->aU M w0 t (ys.toList.drop off) q []->(am2 (d+1) xs ys fs).run P w=.ok (tm t p q) w
 |.nil,[],_,_,_,_,_,_,_,_,_,_,_=>by simp[am2,tm]
 |.nil,_::_,_,_,_,_,_,_,_,c,_,_,_=>c.elim
 |.pr i e,[],_,_,_,_,_,_,_,c,_,_,_=>c.elim
 |.pr i e,f::fs,off,b,xs,ys,p,q,a,c,h,A,B=>by
  cases i<;>simp only[AQ] at a<;>try (cases a;done)
  rename_i L;obtain⟨v,k,J,_,x⟩:=c;simp only[sx,bk,bne_iff_ne,ne_eq] at h;obtain⟨G,f2,o,E,m⟩:=A;obtain⟨H,I,r,F,n⟩:=B;obtain⟨rfl,rfl⟩:=anu.1 o.symm;obtain⟨rfl,rfl⟩:=anu.1 r.symm;have j:∀(b:ev) (g:Value),(b.toList.drop off).take 1=[g]->(part f.type b f.offset).run P w=.ok g w:=λb g z=>(by have C:b[off]?=Y g:=(by have:=b6 (·[0]?) z;simpa[amK,p1] using this);simp only[part,bW,k.isAgg,b1,v,C,pA];rfl);have s:=j xs _ E.2;have u:=j ys _ F.2;obtain⟨K,_,_,_,_,y⟩:=k;have D:=N9 (P:=P) (M:=M) (w:=w) (w0:=w0) (d:=d) (t:=e) (fs:=fs) (off:=off+1) (xs:=xs) (ys:=ys) (p:=p.2) (q:=q.2) a x (by simpa using h.2)
   (by rw[q9] at m;exact m) (by rw[q9] at n;exact n)
  simp only[am2,h.1,not_false_eq_true,cj,ne_eq,bW,s,u,b1,run_equalIn_int _ _ _ _ _ _ _ y];show Sem.run P (if(!((p.1:Z)==(q.1:Z)))=bq then pure bp else am2 (d+1) xs ys fs) w=_;cases l:((p.1:Z)==(q.1:Z)) with
  |true=>
   rw[au ac,D];show _=aoL (((p.1:Z)==(q.1:Z))&&tm e p.2 q.2) w;rw[l,amk]
  |false=>
   rw[aw ac];show _=aoL (((p.1:Z)==(q.1:Z))&&tm e p.2 q.2) w;rw[l,anN];rfl
 |.int _,_,_,_,_,_,_,_,a,_,_,_,_=>by cases a
 |.bool,_,_,_,_,_,_,_,a,_,_,_,_=>by cases a
 |.str,_,_,_,_,_,_,_,a,_,_,_,_=>by cases a
 |.a8 _ _,_,_,_,_,_,_,_,a,_,_,_,_=>by cases a
 |.ptr _ _,_,_,_,_,_,_,_,a,_,_,_,_=>by cases a
 |.osl _,_,_,_,_,_,_,_,a,_,_,_,_=>by cases a
 |.optr _,_,_,_,_,_,_,_,a,_,_,_,_=>by cases a
 |.st _,_,_,_,_,_,_,_,a,_,_,_,_=>by cases a
 |.eF,_,_,_,_,_,_,_,a,_,_,_,_=>by cases a
 |.mp _,_,_,_,_,_,_,_,a,_,_,_,_=>by cases a
 |.fB _ _,_,_,_,_,_,_,_,a,_,_,_,_=>by cases a
 |.fn _ _,_,_,_,_,_,_,_,a,_,_,_,_=>by cases a
theorem W4 (o:ic.ae E C) {H:bR} {w:bA} (b:EJ ic (aV i.g) H=Y (a,w)):e6 E C H i (λco=>co=⟨(a,.val .bool w)::i.g,i.h⟩):=by
 unfold EJ at b;split at b
 case h_2=>cases b
 rename_i R c s u d5 ap a0;split at b
 case h_2=>cases b
 rename_i cs e I d7 ds B U V;cases j:eX c ic.eq&&(AQ e&&(bb cs (.st e)&&gA ic.n ic.pin R)) with
 |false=>rw[j] at b;cases b
 |true=>
 rw[j,bG] at b;obtain⟨J,a3,b⟩:=fG.1 b;cases b;simp only[bk] at j;obtain⟨L,M,N,O⟩:=j;rw[o.1] at B;have am:=(E.ok c _ B).lay N;have an:=E.eqok c (by rw[<-o.2.2.2.1.2.2.2.2.2];exact hk.1 L);cases kq a3;obtain⟨_,dl,A,d6,ay,d0,d1,d2,r,bx,d3⟩:=am;obtain⟨ao,S,ad,z,T⟩:=an;rw[r] at z;obtain rfl:A=ad:=(by simpa using z);rintro f k ⟨cv,d4,c2,m⟩ next c1 dg
 have p:=m.aV s;have q:=m.aV u;rw[U] at p;rw[V] at q;obtain⟨v1,F⟩:∃l,l=f.eval s:=⟨_,bn⟩;obtain⟨fe,G⟩:∃l,l=f.eval u:=⟨_,bn⟩;rw[<-F] at p;rw[<-G] at q;cases p with|val ce=>cases q with|val ci=>
 rename_i x y;have a4:f.eval s=.agg x.toArray:=F.symm;have bl:f.eval u=.agg y.toArray:=G.symm;have D:E.P.fieldsOf c=A:=(by unfold Program.fieldsOf;rw[r]);have av:(alh 10000 c (.agg x.toArray) (.agg y.toArray)).run E.P k=.ok (tm e I J) k:=(by rw[run_equalIn_struct k 9999 c _ _ (by rw[D];exact r) ao,D];exact N9 (t:=e) (off:=0) (d:=9998) M bx T (by rw[m5];exact ce) (by rw[m5];exact ci));refine aml (Q:=λK bs=>K=.val .bool (tm e I J)/\bs=[]) m (.pure (v:=.bool _) (by simp only[bN,a0,a4,bl,bW,run_eqGuard_agg k _ _ _ _ _ _ S,b1,run_eql_struct,av];rfl) (.bool _) ⟨bn,bn⟩) ap (gA.ok o O) ?_;grind
theorem OU (j:ic.ae E C) {p:bT bR} {m:bR} {q:aQ->bv A} {s:A} (k:p[a]?=Y m) (l:kX p i m bq) (c:i1 ic i m q=Y s) (D:∀d,q d=Y s->iw E C p f d u):iw E C p (a::f) i u:=
by
 unfold i1 at c;split at c
 ·rename_i o H y b;obtain⟨J,x,c⟩:=eV.1 c;refine alI k l ((afK j b x).mono (λd e=>?_));grind
 split at c
 ·rename_i o n b;have w:Bw ic (aV i.g) i.h m=Y (o,n)\/EJ ic (aV i.g) m=Y (o,n):=by
   cases r:Bw ic (aV i.g) i.h m with
   |none=>rw[r,Option.none_or] at b;exact .inr b
   |some I=>rw[r,Option.some_or] at b;exact .inl b
  rcases w with b|b
  ·refine alI k l ((adH j b).mono (λd e=>?_));grind
  refine alI k l ((W4 j b).mono (λd e=>?_));grind
 split at c
 ·rename_i o y b;obtain⟨z,B⟩:=ZV c;refine alI k l ((ZW j b).mono (λd e=>?_));obtain⟨n,rfl,F⟩:=e;cases n with
  |false=>grind
  |true=>grind
 split at c
 ·rename_i id d G e;exact alI k l ((WM j e c).mono (λd ⟨t,v,e⟩=>by grind))
 exact alI k l ((NY j c).mono (λd ⟨t,v,e⟩=>by grind))
theorem A0 {l2:aj5} (d:ic.ae E C) {q:bT bR} {s:aQ->bv A} {y:A} {t:aQ->Prop} (f:∀k,s k=Y y->iw E C q l2 k t):∀{p:aj5} {b:aQ},la ic q p b s=Y y->iw E C q (p++l2) b t
 |[],b,a=>f _ a
 |i::p,b,a=>by
  simp only[la] at a;split at a
  ·cases a
  rename_i H j;split at a
  ·rename_i z;exact OU d j (by grind [kX]) a (λk c=>A0 d f c)
  rename_i G l z;split at a
  case h_2=>cases a
  rename_i v u D x;split at a
  case h_3=>cases a
  case h_2=>
   rename_i I B;cases c:gA ic.n ic.pin u with
   |false=>grind
   |true=>
   rw[c] at a;have o:=gA.ok d c;refine iw.skip j x o ?_ (A0 d f a);grind [kX]
  rename_i m B;cases c:gA ic.n ic.pin u with
  |false=>grind
  |true=>
  rw[c] at a;have o:=gA.ok d c;simp only[bG] at a;split at a
  ·rename_i w;obtain rfl:m=l:=(by grind);have r:∀e,gt (⟨(v,.val .bool m)::b.g,b.h⟩:aQ).g e=gt b.g e:=λe=>by
    grind [jk]
   refine iw.same r bn (OU d j ?_ a (λk c=>A0 d f c));grind [kX]
  rename_i w;have F:m=!l:=by cases m<;>cases l<;>first|rfl|cases w
  have r:∀e,gt (⟨(v,.val .bool (!l))::b.g,b.h⟩:aQ).g e=gt b.g e:=λe=>(by grind [jk]);refine iw.same r bn (iw.skip j x o ?_ (A0 d f a));grind [kX]
theorem Yf (h:ic.ae E C) {c:bT bR} {b:aQ->bv A} {d:A} (g:∀a,b a=Y d->u a) (e:la ic c f i b=Y d):iw E C c f i u:=by have:=A0 (l2:=[]) h (λa j=>iw.nil (g a j)) e;grind
end
end
structure kH (s t:aQ):Prop where
 g:∀k,gt s.g k=gt t.g k
 h:∀id,aq s.h id=aq t.h id
def kH.refl (a:aQ):kH a a:=⟨λ_=>rfl,λ_=>rfl⟩
def kH.symm {c d:aQ} (b:kH c d):kH d c:=⟨λa=>(b.g a).symm,λa=>(b.h a).symm⟩
theorem kH.trans {d e f:aQ} (b:kH d e) (c:kH e f):kH d f:=⟨λa=>(b.g a).trans (c.g a),λa=>(b.h a).trans (c.h a)⟩
def cH.uN (a:cH) (e:aQ) (b:X):gt (a.app e).g b=match a.d with
 |some (c,f)=>if c=b then f else fK a.S a.keep (gt e.g b)
 |none=>fK a.S a.keep (gt e.g b):=by
 obtain⟨c,h,i,k⟩:=a;cases c with
 |none=>
  show gt (nX h i e.g) b=_;rw[tz,qD]
 |some j=>
  obtain⟨c,f⟩:=j;show gt ((c,f)::nX h i e.g) b=_;rw[jk,tz,qD]
theorem cH.sR (a:cH) (b:aQ) (id:X):aq (a.app b).h id=(aq a.put id).or (if id∈a.S then bo else aq b.h id):=by show aq (a.put++rI a.S b.h) id=_;rw[xQ,kR,nl]
def kH.app {c t:aQ} (b:kH c t) (a:cH):kH (a.app c) (a.app t):=
 ⟨λd=>by rw[cH.uN,cH.uN,b.g],λd=>by rw[cH.sR,cH.sR,b.h]⟩
def gM.seq {a:e4} {c:aQ} {d:ev} (b:kH i c) (e:gM a i d v):gM a c d v:=e.less (λf=>.inr (b.g f).symm) (λid=>(b.h id).symm)
def EE:bv (X×ak)->aj1->bA
 |some b,Y a=>bH b.1 a
 |none,bo=>bq
 |_,_=>bp
def tQ:ak->bA
 |.dead=>bp
 |_=>bq
def pO (b c:aj5):bA:=b.all λa=>eX a c
theorem pO.ok (b:pO f w=bq):∀a∈f,a∈w:=λa c=>hk.1 (g0.1 b a c)
def pN (a:aj5):ak->bA
 |.ref id []=>eX (id+500000) a
 |_=>bp
def x4:Op->bA
 |.move _=>bq
 |_=>bp
def E0:X->bm a6->bv (X×bm a6)
 |k,.snd::a=>E0 (k+1) a
 |k,.fst::a=>Y (k,a)
 |_,_=>bo
def xX:bm a6->bv (X×bm a6)
 |.deref::.unst::a=>E0 0 a
 |_=>bo
def tq (q:bm a6):aj1:=match q with
 |[]=>Y 1
 |[.deref]=>Y 2
 |q=>match xX q with
  |some (a,[])=>Y (2*a+4)
  |some (a,_::_)=>Y (2*a+5)
  |none=>bo
def ry:ak->bv ej
 |.ref id a=>match tq a with
  |some b=>Y (id,b)
  |none=>bo
 |.addr id a=>match tq a with
  |some b=>Y (id,b)
  |none=>bo
 |.app id a _ _ d=>match eX id d,xX a with
  |false,Y (c,_)=>Y (id,2*c+5)
  |_,_=>bo
 |_=>bo
def tC (b:aj5) (a:ak):bA:=match ry a with
 |some (id,d)=>b9 id 500000&&(eX (id+1000000*d) b&&a.ids.all λc=>bH c id||eX c b)
 |none=>bp
def yu (b:bm a6) (a:X):bA:=(bH a 1&&nW b)||((bH a 2&&nW b.tail&&(match b with|.deref::_=>bq|_=>bp))||match xX b with
 |some (c,d)=>b2 4 a&&(!(bH (a/2) (c+2))||(bH (a %2) 0&&nW d))
 |none=>bp)
def sQ (a:bM->ak) (b:bR):bv (X×bm a6):=match b.op with
 |.call {callee:=.builtin .append,args:=xs,argTypes:=_}=>match xs.toList with
  |[x,_]=>match a x with
   |.ref id (d::c)=>Y (id,d::c)
   |_=>bo
  |_=>bo
 |_=>bo
def Kt (c:aj5) (b:bM->ak) (d:bR):bA:=c.all λa=>b9 a 1000000||(match sQ b d with
 |some (id,e)=>bH (a %1000000) (id+500000)&&(b9 id 500000&&yu e (a/1000000))
 |none=>bp)
def YC (a:aj5) (c:bm (X×bm a6)) (b:aj5):bA:=b.all λid=>b9 id 500000&&((eX id a&&(eX (id+500000) a||lh c (.ref id [])))||eX (id+1500000) a)
def Cx:ak->bA
 |.fj b=>b.all tQ
 |a=>tQ a
def oP (op:Op) (b:aj5) (a:ak):bA:=match op with
 |.extract _ d=>match a with
  |.fj e=>match e[d]? with
   |some c=>tQ c&&(pO c.ids b||pN b c)
   |none=>bp
  |_=>bp
 |op=>Cx a&&(pO a.ids b||((x4 op&&pN b a)||tC b a))
def rO (c e:aj5) (g:bM->ak) (f:bR) (b:cH):bA:=
 EE b.d f.dst&&(f.op.operands.toList.all λh=>oP f.op c (g h))&&YC e b.keep b.S&&(b.put.all λa=>b9 a.1 500000&&(eX a.1 e||eX (a.1+1500000) e))&&((match b.d with|some a=>pO a.2.ids c||(pN c a.2||tC c a.2)|none=>bq)&&Kt e g f)
theorem rz {e:Type} (c:bA) (d:bv b) (a:b->bv e):(bif c then d else bo).bind a=bif c then d.bind a else bo:=by grind
theorem afs (tt:bm (bF×ah)) (d:bm (X×aG)) (c:bF) (f e:ak) (a:cH->bv b):sd tt d c f e a=(sd tt d c f e Y).bind a:=by
 unfold sd;split
 ·rfl
 split
 case h_2=>rfl
 split
 ·rfl
 rw[rz];congr 1;split
 ·grind
 ·grind
 grind
theorem JO (tt:bm (bF×ah)) (d:bm (X×aG)) (c:bF) (g e f:ak) (a:cH->bv b):oM tt d c g e f a=(oM tt d c g e f Y).bind a:=by
 unfold oM;split
 case h_2=>rfl
 split
 case h_2=>rfl
 split
 case h_2=>rfl
 split
 case h_2=>rfl
 grind
theorem Zy (tt:bm (bF×ah)) (e:bm (X×aG)) (d:X) (c:bF) (g f:ak) (a:cH->bv b):rZ tt e d c g f a=(rZ tt e d c g f Y).bind a:=by
 unfold rZ;split
 case h_2=>rfl
 split
 case h_2=>rfl
 split
 case h_2=>rfl
 split
 case h_2=>rfl
 split
 case h_2=>rfl
 grind
theorem W1 (tt:bm (bF×ah)) (d:bm (X×aG)) (c:bF) (g e f:ak) (a:cH->bv b):rM tt d c g e f a=(rM tt d c g e f Y).bind a:=by
 unfold rM;split
 case h_2=>rfl
 rw[rz,JO]
theorem Zs (tt:bm (bF×ah)) (d:bm (X×aG)) (c:bF) (f e:ak) (a:cH->bv b):rY tt d c f e a=(rY tt d c f e Y).bind a:=by
 unfold rY;split
 case h_2=>rfl
 split
 case h_2=>rfl
 split
 case h_2=>rfl
 split
 case h_2=>rfl
 grind
theorem Vc (tt:bm (bF×ah)) (d:bm (X×ah)) (f:bm (X×aG)) (e:X) (c:bF) (g h:ak) (a:cH->bv b):pc tt d f e c g h a=(pc tt d f e c g h Y).bind a:=by
 unfold pc;split
 ·rfl
 split
 ·split
  case h_2=>rfl
  rw[rz];congr 1;split
  ·grind
  grind
 ·split
  case h_2=>rfl
  split
  case h_2=>rfl
  grind
 ·split
  case h_2=>rfl
  grind
 ·grind
 rfl
theorem Vf (tt:bm (bF×ah)) (d:bm (X×ah)) (f:bm (X×aG)) (e:X) (c:bF) (g h:ak) (a:cH->bv b):oB tt d f e c g h a=(oB tt d f e c g h Y).bind a:=by
 unfold oB;split
 ·unfold zv;split
  case h_2=>rfl
  split
  case h_2=>rfl
  grind
 grind [Vc]
theorem Wn (tt:bm (bF×ah)) (e:bm (X×aG)) (d:X) (c:bF) (f g:ak) (a:cH->bv b):rA tt e d c f g a=(rA tt e d c f g Y).bind a:=by
 unfold rA;split
 ·rfl
 split
 ·split
  case h_2=>rfl
  grind
 ·split
  case h_2=>rfl
  grind
 rfl
theorem VA (tt:bm (bF×ah)) (d:bm (X×ah)) (g:bm (X×aG)) (f:bM->ak) (e:X) (c:bF) (h:bm (X×bM)) (a:cH->bv b):sW tt d g f e c h a=(sW tt d g f e c h Y).bind a:=by
 unfold sW;split
 ·rfl
 split
 ·rw[rz];congr 1;split
  ·grind
  rfl
 rw[rz];congr 1;split
 ·rfl
 split
 ·grind
 rfl
theorem VD (tt:bm (bF×ah)) (d:bm (X×ah)) (f:bm (X×aG)) (e:X) (c:bF) (g:ak) (a:cH->bv b):uR tt d f e c g a=(uR tt d f e c g Y).bind a:=by
 unfold uR;split
 ·split
  ·grind
  ·grind
  rfl
 rfl
theorem VH (tt:bm (bF×ah)) (d:bm (X×ah)) (g:bm (X×aG)) (f:bM->ak) (e:X) (c:bF) (h:X) (i:bm (X×bM)) (a:cH->bv b):sY tt d g f e c h i a=(sY tt d g f e c h i Y).bind a:=by
 unfold sY;split
 ·grind
 rfl
theorem AI {e:gV} (c:bM->ak) (d:bm (X×aG)) (f:bR) (a:cH->bv b):ao e c d f a=(ao e c d f Y).bind a:=by
 unfold ao;split
 ·split
  ·grind [afs]
  ·grind [JO]
  ·grind [JO]
  ·grind [W1]
  ·grind [Zs]
  rfl
 rw[rz];congr 1;split
 ·grind
 ·split
  case h_2=>rfl
  split
  ·rfl
  simp_all [nV,Option.bind_assoc,rz,aE]
 ·split
  case h_2=>rfl
  rw[rz];grind [Vf]
 ·grind [Wn]
 ·split
  ·rfl
  ·rfl
  ·rfl
  ·grind
  grind
 ·grind [VA]
 ·grind [Zy]
 ·grind [VD]
 ·grind [VH]
 grind
theorem WI {e:gV} (c:bM->ak) (d:bm (X×aG)) (f:bR) (a:cH->bv b):ku e c d f a=(ku e c d f Y).bind a:=by
 unfold ku;split
 ·grind [AI]
 rw[rz];congr 1;refine(AI _ _ _ _).trans (Eq.trans ?_ (b6 (λg=>bB g a) (AI _ _ _ _)).symm);grind
theorem OC:∀{d:bm a6} {b a:X} {e:bm a6},E0 b d=Y (a,e)->b<=a/\d=bI (a-b) .snd++.fst::e
 |[],_,_,_,c=>by cases c
 |s::d,b,a,e,c=>by
  cases s<;>simp only[E0] at c<;>first|(cases c;done)|skip
  ·simp_all
  obtain⟨g,f⟩:=OC c;refine⟨aa,?_⟩;rw[(aa:a-b=(a-(b+1))+1),List.replicate_succ,kF,<-f]
theorem E1 {c:bm a6} (b:xX j=Y (a,c)):j=.deref::.unst::(bI a .snd++.fst::c):=by
 unfold xX at b;split at b
 ·rename_i j;have:=(OC b).2;grind
 grind
def Im:∀{j k:X} {r r':bm a6},j≠k->k6 (bI j .snd++.fst::r) (bI k .snd++.fst::r')=bq
 |0,0,_,_,a=>absurd rfl a
 |0,k+1,_,_,_=>rfl
 |j+1,0,_,_,_=>rfl
 |j+1,k+1,r,r',a=>Im (j:=j) (k:=k) (r:=r) (r':=r') (λb=>a (by rw[b]))
def O7:∀{j:X} {r:bm a6},hj (bI j .snd++.fst::r) (bI j .snd++[.fst])=nW r
 |0,r=>by cases r<;>rfl
 |j+1,r=>O7 (j:=j) (r:=r)
def O6 (a:bm a6):hj a []=nW a:=by cases a<;>rfl
def adn (c:tq j=Y a):(a=1↔j=[])/\(a=2↔j=[.deref])/\(4<=a->∃d e,xX j=Y (d,e)/\((e=[]/\a=2*d+4)\/(e≠[]/\a=2*d+5)))/\(a=1\/a=2\/4<=a):=by
 unfold tq at c;split at c
 ·cases c;simp
 ·cases c;simp
 rename_i g h;split at c
 ·rename_i d f;cases c;refine⟨⟨λb=>by omega,λb=>absurd b g⟩,⟨λb=>by omega,λb=>absurd b h⟩,λ_=>⟨d,[],f,.inl ⟨bn,bn⟩⟩,aa⟩
 ·rename_i d i e f;cases c;refine⟨⟨λb=>by omega,λb=>absurd b g⟩,⟨λb=>by omega,λb=>absurd b h⟩,λ_=>⟨d,i::e,f,.inr ⟨ac,bn⟩⟩,aa⟩
 cases c
def ado {i:bm a6} (b:yu j a=bq) (s:tq i=Y a):hj j i=bq:=by
 obtain⟨l,m,n,w⟩:=adn s;unfold yu at b;rcases B9.1 b with b|b
 ·obtain⟨c,f⟩:=um.1 b;rw[l.1 (fA c),O6];exact f
 rcases B9.1 b with b|b
 ·obtain⟨b,g⟩:=um.1 b;obtain⟨c,f⟩:=um.1 b;rw[m.1 (fA c)];cases j with
  |nil=>cases g
  |cons v j=>
   cases v<;>first|(cases g;done)|skip
   show hj j []=bq;rw[O6];exact f
 split at b
 ·rename_i d k t;obtain⟨o,b⟩:=um.1 b;obtain⟨h,u,r,q⟩:=n (gX o);rw[E1 r,E1 t];show hj (bI d .snd++.fst::k) (bI h .snd++.fst::u)=bq;by_cases c:d=h
  ·subst c;rcases q with⟨rfl,p⟩|⟨x,p⟩
   ·have ao:a/2=d+2:=aa;have e:a %2=0:=aa;rw[ao,e] at b;have:nW k=bq:=(by simpa using b);rw[O7,this]
   have ao:a/2=d+2:=aa;have e:a %2=1:=aa;rw[ao,e] at b;simp at b
  exact Il (Im c)
 cases b
theorem adm {id:X} (b:yu j a=bq) (i:ry d=Y (id,a)) (n:∀c∈d.ids,c=id\/c∉f):kx f [(id,j),(id,[])] d=bq:=by
 have z:∀h,tq h=Y a->hj j h=bq:=λh p=>ado b p;have v:∀g:X,bH g g=bq:=ame;unfold ry at i;split at i
 ·grind [kx,lh]
 ·grind [kx,lh,Jf]
 ·rename_i g h B A l;split at i
  case h_2=>cases i
  rename_i k t x o;cases i;have w:k6 j h=bq:=by
   unfold yu at b;rcases B9.1 b with b|b
   ·have:=fA (um.1 b).1;omega
   rcases B9.1 b with b|b
   ·have:=fA (um.1 (um.1 b).1).1;omega
   split at b
   ·rename_i c s q;obtain⟨_,b⟩:=um.1 b;rw[E1 o,E1 q];show k6 (bI c .snd++.fst::s) (bI k .snd++.fst::t)=bq;by_cases e:c=k
    ·subst e;have ao:(2*c+5)/2=c+2:=aa;have m:(2*c+5) %2=1:=aa;rw[ao,m] at b;simp at b
    exact Im e
   cases b
  have y:(l.all λg=>!(eX g f))=bq:=g0.2 λu r=>by
   rcases n u (gC _ r) with e|e
   ·grind [hk]
   grind [hk]
  show((l.all λg=>!(eX g f))&&([(id,j),(id,[])].any λe=>bH e.1 id&&k6 e.2 h))=bq;grind
 grind
section
theorem JM {g B:bM->ak} {b:bm (X×bM)} (d:∀e∈b,g e.2=B e.2):∀(f:ah) (a:X),qI g b f a=qI B b f a
 |.pr j h,a=>by
  simp only[qI,JM d h (a+1)];cases i:ml b a with
  |none=>rfl
  |some c=>
   have:g c=B c:=d (a,c) (A6 i);grind
 |.nil,_=>rfl
 |.int _,_=>rfl
 |.bool,_=>rfl
 |.str,_=>rfl
 |.a8 _ _,_=>rfl
 |.ptr _ _,_=>rfl
 |.osl _,_=>rfl
 |.optr _,_=>rfl
 |.st _,_=>rfl
 |.eF,_=>rfl
 |.mp _,_=>rfl
 |.fB _ _,_=>rfl
 |.fn _ _,_=>rfl
theorem PT {h:bm (X×aG)} {g B:bM->ak} {b:bm (X×bM)} (d:∀e∈b,g e.2=B e.2):∀(f:ah) (a:X),np h g b f a=np h B b f a
 |.pr k i,a=>by
  simp only[np,PT d i (a+1)];cases j:ml b a with
  |none=>rfl
  |some c=>
   have:g c=B c:=d (a,c) (A6 j);grind
 |.nil,_=>rfl
 |.int _,_=>rfl
 |.bool,_=>rfl
 |.str,_=>rfl
 |.a8 _ _,_=>rfl
 |.ptr _ _,_=>rfl
 |.osl _,_=>rfl
 |.optr _,_=>rfl
 |.st _,_=>rfl
 |.eF,_=>rfl
 |.mp _,_=>rfl
 |.fB _ _,_=>rfl
 |.fn _ _,_=>rfl
section
variable {tt:bm (bF×ah)} {an:bm (X×ah)} {h A:bm (X×aG)} {d:X} {g B:bM->ak}
theorem FQ {a:eu} (c:∀b∈a.toArray,g b=B b):a.map g=a.map B:=by
 cases a with
 |none=>rfl
 |some b=>grind
theorem W8 {f:Op} (b:∀a∈f.operands,g a=B a):g5 tt an h g d f=g5 tt an h B d f:=by
 cases f
 case build T ps=>
  have:∀e∈ps.toList,g e.2=B e.2:=λe m=>b e.2 (by simp only[bU,zg,eQ];grind);grind [JM,g5,zD]
 case buildSlice T n ps=>
  have:∀e∈ps.toList,g e.2=B e.2:=λe m=>b e.2 (by simp only[bU,zg,eQ];grind);grind [aks,g5,xl]
 case slice T a j hi p=>
  simp only[bU] at b;have t:g a=B a:=b a ac;have u:j.map g=j.map B:=FQ (λi o=>b i (by grind));have v:hi.map g=hi.map B:=FQ (λi o=>b i (by grind));cases p
  ·grind [g5]
  rfl
 case makeMap T q=>
  cases q<;>rfl
 case makeFunc l s cs=>
  cases l<;>try rfl
  grind [aks,akO,g5,bU]
 case call c=>
  obtain⟨r,k,y⟩:=c;have w:∀a∈k.toList,g a=B a:=λa x=>b a (by grind [akO,bU,akH]);clear b;simp only[g5];split
  ·grind
  ·grind [aks]
  ·grind [aks]
  rfl
 all_goals (simp only[bU] at b;simp only[g5])
 all_goals (first|rfl|(simp_all;done))
theorem Xb {e:Op} (b:∀a∈e.operands,g a=B a):kO tt an h g d e=kO tt an h B d e:=by
 cases e
 case slice T a j hi l=>
  simp only[bU] at b;have i:g a=B a:=b a ac;have n:j.map g=j.map B:=FQ (λf k=>b f (by grind));have o:hi.map g=hi.map B:=FQ (λf k=>b f (by grind));cases l
  ·simp_all [kO]
  rfl
 case call c=>
  grind [akO,ao,kO,bU,akH]
 case unOp m T a=>
  have i:g a=B a:=b a (by simp[bU]);cases m<;>simp only[kO,i]
 all_goals (simp only[bU] at b;simp only[kO])
 all_goals (first|rfl|(simp_all;done))
theorem NU {k:gV} {n:bR} {r:cH->bv b} (c:∀j∈n.op.operands,g j=B j):ao k g h n r=ao k B h n r:=by
 have x:=λ(d:X)=>Xb (tt:=k.tt) (an:=k.an) (h:=h) (d:=d) c;have w:=λ(d:X)=>W8 (tt:=k.tt) (an:=k.an) (h:=h) (d:=d) c;unfold ao;cases y:n.dst with
 |none=>
  simp only;split
  ·grind [bU]
  ·grind [bU]
  ·grind [bU]
  ·grind [bU]
  ·rename_i i t e;rw[e] at c;split
   ·rename_i j u l s ao _;have p:∀a∈i.toList,g a=B a:=λa m=>c a (by grind [akO,bU,akH]);grind
   rfl
  rfl
 |some d=>
  simp only;congr 1;split
  ·grind [bU]
  ·rename_i a i _ e;rw[e] at c;have:i.toList.map g=i.toList.map B:=iJ λj p=>c j (by grind [akO,bU,akH]);have m:g a=B a:=c a (by simp[bU,akH]);rw[this,m]
  ·rename_i i t e;rw[e] at c;split
   ·rename_i j u l s ao _;have p:∀a∈i.toList,g a=B a:=λa m=>c a (by grind [akO,bU,akH]);grind
   rfl
  ·rename_i i t e;rw[e] at c;split
   ·rename_i j u l s ao _;have p:∀a∈i.toList,g a=B a:=λa m=>c a (by grind [akO,bU,akH]);grind
   rfl
  ·grind [bU]
  ·rename_i l q e;rw[e] at c;have o:∀f∈q.toList,g f.2=B f.2:=λf v=>c f.2 (by simp only[bU,zg,eQ];grind);simp only[sW,JM o,PT o]
  ·grind [bU]
  ·grind [bU]
  ·rename_i l z q e;rw[e] at c;have o:∀f∈q.toList,g f.2=B f.2:=λf v=>c f.2 (by simp only[bU,zg,eQ];grind);grind [aks,sY]
  grind
def gj (h A:bm (X×aG)) (a:ak):Prop:=∀id∈a.ids,aq h id=aq A id
def adw (a:gj h A t):r6 h t=r6 A t:=by
 cases t with
 |ref id b=>simp only[r6,a id (by simp[bS])]
 |_=>rfl
theorem adv {id:X} (a:r6 h t=Y (id,j)):id∈t.ids:=by
 unfold r6 at a;split at a
 ·grind [bS]
 ·grind [bS]
 grind
theorem aft {a:ak} {d:cH->bv b} (e:gj h A a) (g:gj h A t):sd tt h c a t d=sd tt A c a t d:=by
 unfold sd;rw[<-adw e];split
 ·rfl
 rename_i id j f;rw[e id (adv f)];cases t with
 |ref i k=>simp only[g i (by simp[bS])]
 |_=>rfl
theorem TM (a:gj h A t):lu h k t=lu A k t:=by
 cases t with
 |ref id b=>simp only[lu,a id (by simp[bS])]
 |view id b e d=>simp only[lu,a id (by simp[bS])]
 |val c g=>cases c<;>rfl
 |dh f=>unfold lu;grind
 |_=>rfl
theorem Vd {e:ak} {j:cH->bv b} (f:gj h A e) (k:gj h A t) (n:aq h d=aq A d):pc tt an h d c e t j=pc tt an A d c e t j:=by
 unfold pc;split
 ·rfl
 have g:∀i:ah,lu h i t=lu A i t:=λi=>TM k;cases e with
 |ref id a=>
  cases a with
  |nil=>
   simp only[f id (by simp[bS]),g];cases t with
   |ref o l=>
    cases l with
    |nil=>simp only[k o (by simp[bS])]
    |cons m l=>rfl
   |_=>rfl
  |cons m a=>simp only[f id (by simp[bS]),g,n]
 |view id a q p=>
  cases a with
  |nil=>simp only[f id (by simp[bS]),g]
  |cons m a=>rfl
 |dh r=>grind
 |_=>rfl
def adc {a:ak} (d:gj h A t):v9 h a t=v9 A a t:=by
 unfold v9;cases a with
 |ref id b=>
  cases b with
  |nil=>rfl
  |cons f b=>
   cases t with
   |ref e c=>
    cases c with
    |nil=>simp only[d e (by simp[bS])]
    |cons g c=>rfl
   |_=>rfl
 |_=>rfl
theorem Vg {a:ak} {e:cH->bv b} (g:gj h A t) (i:gj h A a) (f:aq h d=aq A d):oB tt an h d c t a e=oB tt an A d c t a e:=by
 unfold oB;rw[adc i,Vd g i f];split
 ·rename_i id l k m j;obtain⟨rfl,_,_⟩:=Kr j;unfold zv;rw[g id (by simp[bS]),f]
 rfl
theorem Wo {e:ak} {g:cH->bv b} (i:gj h A e) (k:gj h A t):rA tt h d c e t g=rA tt A d c e t g:=by
 unfold rA;split
 ·rfl
 have j:∀f:ah,lu h f t=lu A f t:=λf=>TM k;cases e with
 |ref id a=>
  cases a with
  |nil=>simp only[i id (by simp[bS]),j]
  |cons l a=>rfl
 |view id a n m=>
  cases a with
  |nil=>simp only[i id (by simp[bS]),j]
  |cons l a=>rfl
 |_=>rfl
theorem Hq (b:gj h A t):ql an h d t=ql an A d t:=by
 cases t with
 |ref id a=>
  cases a with
  |nil=>simp only[ql,b id (by simp[bS])]
  |cons c a=>rfl
 |view id a f e=>
  cases a with
  |nil=>simp only[ql,b id (by simp[bS])]
  |cons c a=>rfl
 |dh t=>unfold ql;grind
 |_=>rfl
def adi (b:gj h A t):yr h k t=yr A k t:=by
 cases t with
 |ref id a=>
  cases a with
  |nil=>simp only[yr,b id (by simp[bS])]
  |cons c a=>rfl
 |_=>rfl
def PU {b:bm (X×bM)} (c:∀i∈b,gj h A (g i.2)):∀(d:ah) (a:X),np h g b d a=np A g b d a
 |.pr k e,a=>by
  simp only[np,PU c e (a+1)];cases f:ml b a with
  |none=>rfl
  |some j=>simp only[adi (c (a,j) (A6 f))]
 |.nil,_=>rfl
 |.int _,_=>rfl
 |.bool,_=>rfl
 |.str,_=>rfl
 |.a8 _ _,_=>rfl
 |.ptr _ _,_=>rfl
 |.osl _,_=>rfl
 |.optr _,_=>rfl
 |.st _,_=>rfl
 |.eF,_=>rfl
 |.mp _,_=>rfl
 |.fB _ _,_=>rfl
 |.fn _ _,_=>rfl
def V5 (b:gj h A t):uW h k t=uW A k t:=by
 cases t with
 |ref id a=>
  cases a with
  |nil=>simp only[uW,b id (by simp[bS])]
  |cons c a=>rfl
 |_=>rfl
theorem No {c:ah}:∀{l:bm ak},(∀a∈l,gj h A a)->uX h c l=uX A c l
 |[],_=>rfl
 |x::d,b=>by simp only[uX,V5 (b x ac),No (l:=d) (λa e=>b a (by grind))]
def Ho {v:ak} (a:gj h A v):nN h f v k=nN A f v k:=by
 cases v with
 |ref id b=>simp only[nN,a id (by simp[bS])]
 |_=>rfl
theorem ak.JH {f:X} {a:bm ak} {id:X} (c:t∈a) (e:id∈t.ids):id∈(ak.eA f a).ids:=by obtain⟨b,d,rfl⟩:=g1.1 c;exact ak.Be (l:=a) (i:=b) (bi d) e
def M0 (a:gj h A t):uT h f t k=uT A f t k:=by
 unfold uT;split
 ·rename_i b d;rw[Ho (v:=b) (λid c=>a id (by simpa[bS] using c))]
 exact Ho a
def M2 {c:aj5}:∀{l:bm ak} {b:ah},(∀a∈l,gj h A a)->sZ h c l b=sZ A c l b
 |[],b,_=>by cases b<;>rfl
 |a::l,b,d=>by
  cases b<;>first|rfl|skip
  simp only[sZ,M0 (d a ac),M2 (l:=l) (λa e=>d a (by simp[e]))]
def VU (a:gj h A t):xm h w t k=xm A w t k:=by
 unfold xm;split
 ·rename_i e b i j;rw[M2 (l:=b) (λg c id d=>a id (by
   have:=ak.JH (f:=e) c d;simpa[bS] using this))]
 exact M0 a
theorem OF {b:aj5}:∀{τs:bm ah} {avs:bm ak},(∀a∈avs,gj h A a)->pw h b τs avs=pw A b τs avs
 |[],[],_=>rfl
 |[],_::_,_=>rfl
 |_::_,[],_=>rfl
 |τ::e,d::as,c=>by simp only[pw,VU (c d ac),OF (τs:=e) (avs:=as) (λa f=>c a (by grind))]
theorem tv {S:aj5}:∀{ps:bm hB} {avs:bm ak},(∀b∈avs,gj h A b)->fQ h S ps avs=fQ A S ps avs
 |[],[],_=>rfl
 |[],_::_,_=>rfl
 |p::d,[],_=>by cases p<;>rfl
 |.v q::d,e::as,a=>by simp only[fQ,Ho (a e ac),tv (ps:=d) (avs:=as) (λb g=>a b (by grind))]
 |.c z r::d,e::as,a=>by
  have f:=tv (S:=S) (ps:=d) (avs:=as) (λb g=>a b (by grind));cases e with
  |eA u i=>
   have:pw h S r i=pw A S r i:=OF (λb g id t=>a (.eA u i) ac id (ak.JH g t));grind [fQ]
  |_=>rfl
 |.m q::d,e::as,a=>by
  have f:=tv (S:=S) (ps:=d) (avs:=as) (λb g=>a b (by grind));cases e with
  |ref id p=>
   cases p with
   |nil=>simp only[fQ,a (.ref id []) ac id (by simp[bS]),f]
   |cons l p=>rfl
  |_=>rfl
 |.o q::d,e::as,a=>by
  have f:=tv (S:=S) (ps:=d) (avs:=as) (λb g=>a b (by grind));cases e with
  |ref id p=>
   cases p with
   |nil=>simp only[fQ,a (.ref id []) ac id (by simp[bS]),f]
   |cons l p=>rfl
  |dh x=>grind [fQ]
  |_=>rfl
 |.w B::d,e::as,a=>by
  have f:=tv (S:=S) (ps:=d) (avs:=as) (λb g=>a b (by grind));cases e with
  |view id p k j=>
   cases p with
   |nil=>simp only[fQ,a (.view id [] k j) ac id (by simp[bS]),f]
   |cons l p=>rfl
  |_=>rfl
 |.n::d,e::as,a=>by
  have f:=tv (S:=S) (ps:=d) (avs:=as) (λb g=>a b (by grind));cases e with
  |dh x=>grind [fQ]
  |_=>rfl
 |.s y i::d,e::as,a=>by
  have f:=tv (S:=S) (ps:=d) (avs:=as) (λb g=>a b (by grind));cases e with
  |ref id p=>grind [fQ]
  |view id p k j=>grind [fQ]
  |_=>simp only[fQ,f]
theorem Y1 (a:gj h A t):vJ tt h c t=vJ tt A c t:=by
 unfold vJ;cases t with
 |ref id d=>simp only[a id (by simp[bS])]
 |app id d b i e=>simp only[a id (by simp[bS])]
 |val b j=>cases gZ tt c with|none=>rfl|some f=>cases b<;>rfl
 |dh g=>grind
 |_=>rfl
theorem ZF (a:gj h A t):vR tt h c t=vR tt A c t:=by
 unfold vR;cases t with
 |ref id d=>simp only[a id (by simp[bS])]
 |val b f=>cases lg tt c with|none=>rfl|some e=>cases b<;>rfl
 |_=>rfl
def Zc {a:ak} {b:bA} (d:gj h A t):vM tt h c t a b=vM tt A c t a b:=by
 unfold vM;cases t with
 |ref id f=>simp only[d id (by simp[bS])]
 |val e g=>split<;>first|rfl|(cases e<;>rfl)
 |_=>split<;>rfl
theorem ZD (a:aq h d=aq A d):yj tt an h d c=yj tt an A d c:=by grind [yj]
theorem JP {a:cH->bv b} {d e:ak} (f:gj h A t):oM tt h c t d e a=oM tt A c t d e a:=by
 unfold oM;cases t with
 |ref id g=>simp only[f id (by simp[bS])]
 |_=>rfl
theorem Zz {a:cH->bv b} {e:ak} (f:gj h A t):rZ tt h d c t e a=rZ tt A d c t e a:=by
 unfold rZ;cases t with
 |ref id g=>simp only[f id (by simp[bS])]
 |_=>rfl
theorem W2 {a:cH->bv b} {d e:ak} (f:gj h A t):rM tt h c t d e a=rM tt A c t d e a:=by unfold rM;grind [JP]
theorem Zt {a:cH->bv b} {d:ak} (e:gj h A t):rY tt h c t d a=rY tt A c t d a:=by
 unfold rY;cases t with
 |ref id f=>simp only[e id (by simp[bS])]
 |_=>rfl
def Yg {b:ak} (a:gj h A t):vF tt h c t b=vF tt A c t b:=by
 unfold vF;cases t with
 |ref id d=>simp only[a id (by simp[bS])]
 |view id d g f=>simp only[a id (by simp[bS])]
 |val e j=>cases e<;>rfl
 |dh i=>rfl
 |_=>rfl
theorem Y9 (a:gj h A t):vL tt h c t=vL tt A c t:=by
 unfold vL;cases t with
 |ref id b=>simp only[a id (by simp[bS])]
 |addr id b=>simp only[a id (by simp[bS])]
 |val d f=>cases d<;>first|rfl|grind
 |dh e=>rfl
 |_=>rfl
theorem Xx (b:gj h A t):vA tt h c t a=vA tt A c t a:=by
 unfold vA;cases t with
 |ref id d=>simp only[b id (by simp[bS])]
 |addr id d=>simp only[b id (by simp[bS])]
 |val e g=>cases e<;>first|rfl|grind
 |dh f=>rfl
 |_=>rfl
def Xz (b:gj h A t):jy.xU tt h c t a=jy.xU tt A c t a:=by
 unfold jy.xU;cases t with
 |ref id e=>simp only[b id (by simp[bS])]
 |val d g=>cases d<;>rfl
 |dh f=>rfl
 |_=>rfl
def ZT (a:gj h A t):vY h t=vY A t:=by
 unfold vY;cases t with
 |ref id c=>simp only[a id (by simp[bS])]
 |val b e=>cases b<;>rfl
 |dh d=>rfl
 |_=>rfl
def afg {b a:bv ak} (d:gj h A t):wu tt h c t b a=wu tt A c t b a:=by
 unfold wu;cases t with
 |ref id f=>simp only[d id (by simp[bS])]
 |val e i=>cases e<;>rfl
 |dh g=>rfl
 |_=>rfl
theorem Zo {a:ak} (b:aq h d=aq A d):vO tt an h d c a t=vO tt an A d c a t:=by grind [vO]
theorem U7 (a:aq h d=aq A d):xa tt an h d c=xa tt an A d c:=by grind [xa]
theorem W9 {e:Op} (b:∀a∈e.operands,gj h A (g a)) (f:aq h d=aq A d):g5 tt an h g d e=g5 tt an A g d e:=by
 cases e
 case box T a=>grind [g5,zE]
 case buildSlice T n ps=>grind [g5,xl]
 case alloc T=>exact U7 f
 case makeSlice T l c=>exact Zo f
 case makeMap T p=>
  cases p
  ·exact ZD f
  rfl
 case lookup T a k ok=>exact Zc (b a (by simp[bU]))
 case load T a=>exact Y9 (b a (by simp[bU]))
 case nilCheck a=>exact ZT (b a (by simp[bU]))
 case indexAddr T a i=>exact Yg (b a (by simp[bU]))
 case fieldAddr T a n=>exact Xx (b a (by simp[bU]))
 case field T a n=>exact Xz (b a (by simp[bU]))
 case slice T a u hi o=>
  cases o
  ·exact afg (b a (by simp[bU]))
  rfl
 case call c=>
  obtain⟨q,j,v⟩:=c;have s:∀a∈j.toList,gj h A (g a):=λa t=>b a (by grind [akO,bU,akH]);clear b;simp only[g5];split
  ·grind [ZF,Y1]
  ·rfl
  ·rfl
  rfl
 case makeFunc m r cs=>cases m<;>rfl
 all_goals rfl
theorem Xc {n:Op} (j:∀b∈n.operands,gj h A (g b)) (z:aq h d=aq A d):kO tt an h g d n=kO tt an A g d n:=by
 cases n
 case lookup f b k ok=>
  have a:=j b (by simp[bU]);simp only[kO];split
  ·rename_i w id e B ao r y;rw[r] at a;rw[a id (by simp[bS])]
  rfl
 case makeSlice f l c=>grind [kO]
 case unOp v f b=>cases v<;>rfl
 case indexAddr f b i=>
  have a:=j b (by simp[bU]);simp only[kO];revert a;cases g b with
  |ref id e=>intro a;simp only[a id (by simp[bS])]
  |view id e t s=>
   intro a;cases e with
   |nil=>simp only[a id (by simp[bS])]
   |cons=>rfl
  |val m p=>intro _;cases m<;>rfl
  |_=>intro _;rfl
 case load f b=>
  have a:=j b (by simp[bU]);simp only[kO];revert a;cases g b with
  |ref id e=>intro a;simp only[a id (by simp[bS])]
  |addr id e=>intro a;simp only[a id (by simp[bS])]
  |val m p=>intro _;cases m<;>rfl
  |_=>intro _;rfl
 case slice f b t s u=>
  have a:=j b (by simp[bU]);cases u
  ·simp only[kO];revert a;cases g b with
   |ref id e=>intro a;simp only[a id (by simp[bS])]
   |val m p=>intro _;cases m<;>rfl
   |_=>intro _;rfl
  rfl
 case call c=>
  obtain⟨x,q,C⟩:=c;have o:∀b∈q.toList,gj h A (g b):=λb a=>j b (by grind [akO,bU,akH]);clear j;simp only[kO];split
  ·rename_i b f ao _;rw[ao] at o;have a:=o b ac;cases gZ tt f with
   |none=>
    revert a;cases g b with
    |ref id e=>intro a;simp only;rw[a id (by simp[bS])]
    |_=>intro _;rfl
   |some w=>
    revert a;cases g b with
    |ref id e=>intro a;simp only;rw[a id (by simp[bS])]
    |_=>intro _;rfl
  rfl
 all_goals rfl
theorem tJ {b:Callee} {a:bT bM} {c:bT bF} (d:n∈a.toList):n∈(Op.call {callee:=b,args:=a,argTypes:=c}).operands:=by grind [akO,bU,akH]
theorem NV {t:gV} {s:bR} (a:ao t g h s Y=Y q) (e:∀l∈s.op.operands,gj h A (g l)) (o:∀d,s.dst=Y d->aq h d=aq A d) (p:∀b∈q.put,aq h b.1=aq A b.1):ao t g A s Y=Y q:=by
 unfold ao at a|-;cases v:s.dst with
 |none=>
  rw[v] at a;simp only at a|-;split at a
  ·grind [aft,bU]
  ·grind [JP,bU]
  ·grind [JP,bU]
  ·grind [W2,bU]
  ·grind [Zt,tJ]
  omega
 |some d=>
  rw[v] at a;have o:=o d v;simp only at a|-;cases G:gA t.n t.pin d with
  |false=>grind
  |true=>
  rw[G] at a;simp only[bG] at a|-;split at a
  ·omega
  ·rename_i J z _ i;rw[i] at e;split at a
   case h_2=>cases a
   rename_i D x I
   try rw[I]
   try simp only
   have F:∀j∈z.toList.map g++x,gj h A j:=λj k=>by
    rcases hn.1 k with k|k
    ·grind [tJ]
    intro id N;exact e J (by simp[bU,akH]) id (by grind [ak.JH])
   split at a
   ·cases a
   rename_i c K;cases E:bH c.f D with
   |false=>grind
   |true=>
   rw[E] at a;simp only[bG,nV] at a|-;rw[<-tv F];obtain⟨j,k,a⟩:=eV.1 a;obtain⟨m,H,a⟩:=eV.1 a;simp only[k,H,aE];cases C:nO d ⟨[],h⟩ (z.toList.map g++x) (gK c.ps j m) (jn c.rs (iE c.ps m)) with
   |false=>grind
   |true=>
   rw[C] at a;have L:nO d ⟨[],A⟩ (z.toList.map g++x) (gK c.ps j m) (jn c.rs (iE c.ps m))=bq:=(by rw[<-C];unfold nO;congr 1;rw[wK,g0,g0];cases a;have w:∀b∈jo d (jl (jn c.rs (iE c.ps m))) 0 (jn c.rs (iE c.ps m)),aq h b.1=aq A b.1:=λb w=>p b (by grind);grind);grind
  ·grind [Vg,tJ]
  ·grind [Wo,tJ]
  ·rename_i l i;rw[i] at e;have r:=e l (by simp[bU]);revert a r;cases g l with
   |val T S=>grind
   |dh R=>grind [Hq]
   |ref id u=>grind [Hq]
   |view id u O M=>grind [Hq]
   |_=>intro a _;exact a
  ·rename_i B y i;rw[i] at e;have p:∀b∈y.toList,gj h A (g b.2):=λb w=>e b.2 (by simp only[bU,zg,eQ];grind);rw[<-a];simp only[sW,PU p,o]
  ·grind [Zz,bU]
  ·rename_i B l i;rw[i] at e;have r:=e l (by simp[bU]);rw[<-a];simp only[uR,o];revert r;cases g l with
   |ref id u=>
    intro r;cases u with
    |nil=>simp only[r id (by simp[bS])]
    |cons Q u=>rfl
   |_=>intro _;rfl
  ·rename_i B P y i;rw[i] at e;have p:∀j∈y.toList.map (λb=>g b.2),gj h A j:=λj k=>by
    obtain⟨b,w,rfl⟩:=eQ.1 k;exact e b.2 (by simp only[bU,zg,eQ];grind)
   rw[<-a];simp only[sY,No p,o]
  grind [Xc,W9]
end
theorem TB {d:Op}:∀e∈sf d,e∈d.operands:=by
 intro e b;cases d<;>simp only[sf] at b<;>first|(cases b;done)|skip
 case assign y=>grind [bU]
 case box T y=>grind [bU]
 case build T ps=>grind [bU]
 case buildSlice T n ps=>grind [bU]
 case store T a v=>grind [bU]
 case mapUpdate T a k v=>grind [bU]
 case insert T a k v=>grind [bU]
 case entryStore T a k v=>grind [bU]
 case call c=>
  obtain⟨g,f,h⟩:=c;simp only at b;split at b
  ·exact tJ b
  ·exact tJ (List.mem_of_mem_drop b)
  grind
theorem EY {e:aj7} {f:X} {g:bM->ak}:∀{a:bm bM},∀id∈mM e f g a,∃x∈a,g x=.ref id []
 |[],id,h=>by cases h
 |x::a,id,h=>by
  simp only[mM] at h;split at h
  ·rename_i j i;rw[Bool.cond_eq_ite] at h;split at h
   ·rcases fC.1 h with rfl|h
    ·grind
    obtain⟨d,c,b⟩:=EY id h;grind
   obtain⟨d,c,b⟩:=EY id h;grind
  obtain⟨d,c,b⟩:=EY id h;grind
theorem OB {a:aj7} {c:X} {g B:bM->ak}:∀{l:bm bM},(∀x∈l,g x=B x)->mM a c g l=mM a c B l
 |[],_=>rfl
 |x::l,b=>by simp only[mM,b x ac,OB (l:=l) (λd e=>b d (by grind))]
theorem Oz {h A:bm (X×aG)} (c:∀id∈f,aq h id=aq A id) (a:ak):gY h f a=gY A f a:=by
 cases a with
 |ref id b=>
  cases b with
  |nil=>
   grind [hk,eX,gY]
  |cons d b=>rfl
 |_=>rfl
theorem XL {h A:bm (X×aG)} (d:∀id∈f,aq h id=aq A id) (a:ak):iR h f a=iR A f a:=by
 by_cases c:∃b,a=.fj b
 ·obtain⟨b,rfl⟩:=c;grind [aks,Oz,iR]
 grind [IR,Oz]
theorem Oy {h:bm (X×aG)}:∀id∈(gY h f d).ids,id∈d.ids:=by
 intro id b;rcases mL h f d with⟨e,c,rfl,_,_,a⟩|⟨a,_⟩|⟨a,_⟩
 ·rw[a] at b;have:(rQ c).ids=[]:=(by unfold rQ;split<;>rfl);grind
 ·rw[a] at b;cases b
 grind
def OW {c:ak->ak} (d:∀a,∀id∈(c a).ids,id∈a.ids):∀{b:bm ak} {id:X},id∈ak8 (b.map c)->id∈ak8 b
 |[],_,h=>h
 |a::b,id,h=>by simp only[gW,ak8,hn] at h|-;exact h.imp (d a id) (OW d)
theorem XK {h:bm (X×aG)}:∀id∈(iR h f d).ids,id∈d.ids:=by
 by_cases c:∃a,d=.fj a
 ·obtain⟨a,rfl⟩:=c;exactλid b=>OW (λd=>Oy) b
 grind [IR,Oy]
theorem WK {i:gV} {g B:bM->ak} {h A:bm (X×aG)} {b:bR} (c:ku i g h b Y=Y q) (o:∀a∈b.op.operands,g a=B a) (n:∀a∈b.op.operands,gj h A (g a)) (t:∀d,b.dst=Y d->aq h d=aq A d) (y:∀l∈q.put,aq h l.1=aq A l.1):ku i B A b Y=Y q:=by
 unfold ku at c|-;rw[<-OB (λa f=>o a (TB a f))];split
 ·rename_i j;rw[j] at c;rw[<-NU o];grind [NV]
 rename_i x;split at c
 ·grind
 have j:∀id∈mM i.qB (vC b) g (sf b.op),aq h id=aq A id:=λid k=>(by obtain⟨a,f,q⟩:=EY id k;exact n a (TB a f) id (by grind [bS]));generalize mM i.qB (vC b) g (sf b.op)=e at c j|-;have r:nP A e=nP h e:=(by unfold nP;grind);rw[r];cases s:nP h e with
 |false=>grind
 |true=>
 rw[s] at c;simp only[bG] at c|-;rw[AI] at c|-;obtain⟨m,p,v⟩:=eV.1 c;have z:m.put=q.put:=(by grind);have w:ao i (λa=>iR A e (B a)) (del e A) b Y=Y m:=by
  rw[<-NU (g:=λa=>iR h e (g a)) (λa f=>by grind [XL])];refine NV p (λa f id k=>?_) (λd u=>?_) (λl C=>?_)
  ·rw[nl,nl,n a f id (XK id k)]
  ·rw[nl,nl,t d u]
  grind [nl]
 grind
end
section
def qP (D:bT bR) (a:X):aj5:=match D[a]? with
 |some b=>(b.after.toList.filter (anW .any)).map (·.on)
 |none=>[]
def yQ (a:X):cH:=⟨Y (a,.dh bV),[],[],[]⟩
def EF (ic:gV) {d:Type} (G C:aj5) (a:aQ) (c:bR) (e:cH->bv d):bv d:=
 ku ic (aV a.g) a.h c λb=>bif rO G C (aV a.g) c b then e b else bo
def iK (ic:gV) (D:bT bR) (G C:X->aj5) (e:X) (b:aQ) (d:cH):Prop:=
 ∃a,D[e]?=Y a/\((kX D b a bq/\ku ic (aV b.g) b.h a Y=Y d/\rO (G e) (C e) (aV b.g) a d=bq)\/(kX D b a bp/\∃c,a.dst=Y c/\gA ic.n ic.pin c=bq/\d=yQ c))
def tw (ic:gV) {k:Type} (D:bT bR) (G C:X->aj5):aj5->aQ->(aQ->bv k)->bv k
 |[],a,b=>b a
 |i::e,a,b=>match D[i]? with
  |none=>bo
  |some f=>match f.guard with
   |none=>EF ic (G i) (C i) a f λj=>tw ic D G C e (j.app a) b
   |some (
    l,ui)=>match(D[l]?).bind (·.dst),f.dst with
    |some d,Y c=>match gt a.g d with
     |.val .bool m=>bif gA ic.n ic.pin c then
      (match m==ui with
      |true=>EF ic (G i) (C i) ⟨(d,.val .bool ui)::a.g,a.h⟩ f λj=>tw ic D G C e (j.app ⟨(d,.val .bool ui)::a.g,a.h⟩) b
      |false=>tw ic D G C e ⟨(c,.dh bV)::(d,.val .bool (!ui))::a.g,a.h⟩ b) else bo
     |.dh (.tuple _)=>bif gA ic.n ic.pin c then tw ic D G C e ⟨(c,.dh bV)::a.g,a.h⟩ b else bo
     |_=>bo
    |_,_=>bo
def ox (ic:gV) (D:bT bR) (G C:X->aj5):aj5->aQ->aQ->Prop
 |[],a,b=>kH a b
 |i::d,a,b=>∃c,iK ic D G C i a c/\ox ic D G C d (c.app a) b
theorem Vb {tt:bm (bF×ah)} {id:X} {f:a6} (b:oB tt l e a c (.ref id (f::j)) d Y=Y q):q.keep=[(id,f::j),(id,[])]/\q.S=[id]/\aq q.put id=aq e id:=by
 have o:∀{h:ak} {g:aG},aq e id=Y g->aq e a=bo->Y (cH.mk (Y (a,h)) [id] [(id,f::j),(id,[])] [(a,⟨.eF,()⟩),(id,g)])=Y q->q.keep=[(id,f::j),(id,[])]/\q.S=[id]/\aq q.put id=aq e id:=(by intro h g i p k;cases k;have m:¬a=id:=λq=>(by grind);exact⟨bn,bn,by rw[di,au m,di,aw bn,i]⟩);unfold oB at b;split at b
 ·rename_i r t s u n;obtain⟨ao,_,_⟩:=Kr n;cases ao;unfold zv at b;split at b
  case h_2=>cases b
  grind [alp]
 unfold pc at b;split at b
 ·cases b
 rename_i v _;simp only at b;split at b
 case h_2=>cases b
 grind [alp]
theorem Hm {id:X} (e:sQ U h=Y (id,j)):∃d f c g b a,h.op=.call {callee:=.builtin .append,args:=d,argTypes:=f}/\d.toList=[c,g]/\j=b::a/\U c=.ref id (b::a):=by unfold sQ at e;grind
theorem NT {ic:gV} {g:bM->ak} {id:X} {d:bT bM} {o:bT bF} {p:bM} {c:a6} {b:bm a6} (k:h.op=.call {callee:=.builtin .append,args:=d,argTypes:=o}) (m:d.toList=[z,p]) (s:j=c::b) (r:g z=.ref id (c::b)) (a:ao ic g e h Y=Y q):q.keep=[(id,j),(id,[])]/\q.S=[id]/\aq q.put id=aq e id:=by
 unfold ao at a;cases i:h.dst with
 |none=>grind
 |some f=>
  rw[i] at a;simp only at a;cases l:gA ic.n ic.pin f with
  |false=>grind
  |true=>
  rw[l] at a;simp only[bG,k,m] at a;grind [Vb]
theorem NX {ic:gV} {id:X} (x:sQ U h=Y (id,j)) (c:ku ic U e h Y=Y q):q.keep=[(id,j),(id,[])]/\aq q.put id=aq e id:=by
 obtain⟨M,K,k,N,i,f,p,r,C,o⟩:=Hm x;unfold ku at c;split at c
 ·grind [NT]
 generalize mM ic.qB (vC h) U (sf h.op)=b at c;cases z:nP e b with
 |false=>grind
 |true=>
 rw[z] at c;simp only[bG] at c;rw[AI] at c;obtain⟨l,a,m⟩:=eV.1 c;cases B:l.keep.all (λs=>!eX s.1 b) with
 |false=>grind
 |true=>
 rw[B] at m;cases m;have d:iR e b (.ref id (i::f))=.ref id (i::f)\/iR e b (.ref id (i::f))=.dead:=by
  rw[IR (by grind)];rcases mL e b (.ref id (i::f)) with⟨s,J,q,_⟩|⟨q,_⟩|⟨q,_⟩
  ·cases q
  ·grind
  grind
 rcases d with d|d
 ·obtain⟨E,_,F⟩:=NT (g:=λk=>iR e b (U k)) p r C (by show iR e b (U k)=_;rw[o];exact d) a;refine⟨E,?_⟩;show aq l.put id=_;rw[F,nl];have I:id∉b:=λH=>by
   grind [hk,alg]
  grind
 exfalso;unfold ao at a;cases A:h.dst with
 |none=>grind
 |some v=>
  rw[A] at a;simp only at a;cases D:gA ic.n ic.pin v with
  |false=>grind
  |true=>
  rw[D] at a;simp only[bG,p,r] at a;split at a
  case h_2=>cases a
  rename_i L O t u w G;cases w;cases y:bH t u with
  |false=>grind
  |true=>
  rw[y] at a;simp only[bG,o,d,oB,v9,pc] at a;grind
section
variable {ic:gV} {D:bT bR} {G C:X->aj5}
theorem EE.ok {e:bv (X×ak)} {a:aj1} (c:EE e a=bq):∀d b,e=Y (d,b)->a=Y d:=by
 intro d b g;subst g;cases a with
 |none=>cases c
 |some f=>rw[fA (show bH d f=bq from c)]
theorem NZ {c:bR} {d:cH->bv b} {e:b} (j:EF ic f w i c d=Y e):∃a,ku ic (aV i.g) i.h c Y=Y a/\rO f w (aV i.g) c a=bq/\d a=Y e:=by unfold EF at j;grind [alp,WI]
def m4 (b:aj5) (a:ak):Prop:=(∀id∈a.ids,id∈b)\/(∃id,a=.ref id []/\id+500000∈b)\/∃id c,ry a=Y (id,c)/\id<500000/\id+1000000*c∈b/\∀d∈a.ids,d=id\/d∈b
theorem tC.ok (a:tC f d=bq):∃id b,ry d=Y (id,b)/\id<500000/\id+1000000*b∈f/\∀c∈d.ids,c=id\/c∈f:=by
 unfold tC at a;split at a
 case h_2=>cases a
 rename_i id b e;simp only[bk] at a;refine⟨id,b,e,gX a.1,hk.1 a.2.1,λc g=>?_⟩;simp_all [fA,hk,jx,g0]
theorem pN.ok (a:pN f d=bq):∃id,d=.ref id []/\id+500000∈f:=by unfold pN at a;grind [hk]
theorem m4.ok {c:aj5} {b:ak} (a:(pO b.ids c||pN c b)=bq):m4 c b:=by
 rcases jx _ _▸a with a|a
 ·exact .inl (pO.ok a)
 exact .inr (.inl (pN.ok a))
theorem m4.aa7 (a:(pO d.ids f||(pN f d||tC f d))=bq):m4 f d:=by
 simp only[jx] at a;rcases a with a|a|a
 ·exact .inl (pO.ok a)
 ·exact .inr (.inl (pN.ok a))
 exact .inr (.inr (tC.ok a))
theorem Oh (b:tq j=Y a):1<=a:=by unfold tq at b;grind
theorem V4 {id:X} (b:ry d=Y (id,a)):1<=a:=by
 unfold ry at b;split at b
 ·split at b
  ·rename_i c;cases b;exact Oh c
  grind
 ·split at b
  ·rename_i c;cases b;exact Oh c
  grind
 ·grind
 grind
def L3 (e:Op) (c:aj5) (b:ak):Prop:=
 (∃f d g a,e=.extract f d/\b=.fj g/\g[d]?=Y a/\tQ a=bq/\m4 c a)\/
 ((∀f d,e≠.extract f d)/\Cx b=bq/\m4 c b/\((∀id∈b.ids,id∈c\/∃a,1<=a/\id<500000/\id+1000000*a∈c)\/x4 e=bq))
theorem oP.ok {h:Op} {f:aj5} {e:ak} (a:oP h f e=bq):L3 h f e:=by
 unfold oP at a;split at a
 ·rename_i d b;split at a
  case h_2=>cases a
  rename_i q;split at a
  case h_2=>cases a
  rename_i c o;rw[bk] at a;exact .inl ⟨d,b,q,c,bn,bn,o,a.1,.ok a.2⟩
 rename_i p;simp only[bk,jx] at a;refine .inr ⟨λd b i=>p d b i,a.1,?_⟩;rcases a.2 with a|⟨a,j⟩|a
 ·exact⟨.inl (pO.ok a),.inl λb g=>.inl (pO.ok a b g)⟩
 ·exact⟨.inr (.inl (pN.ok j)),.inr a⟩
 obtain⟨id,c,k,l,m,n⟩:=tC.ok a;refine⟨.inr (.inr ⟨id,c,k,l,m,n⟩),.inl λb g=>?_⟩;grind
theorem rO.ok {h b:aj5} {i:bM->ak} {f:bR} {c:cH} (a:rO h b i f c=bq):(∀d e,c.d=Y (d,e)->f.dst=Y d)/\(∀k∈f.op.operands,L3 f.op h (i k))/\(∀id∈c.S,id<500000/\(id∈b/\(id+500000∈b\/lh c.keep (.ref id [])=bq)\/id+1500000∈b))/\(∀g∈c.put,g.1<500000/\(g.1∈b\/g.1+1500000∈b))/\(∀d e,c.d=Y (d,e)->m4 h e)/\(∀n∈b,1000000<=n->∃id j,sQ i f=Y (id,j)/\n %1000000=id+500000/\id<500000/\yu j (n/1000000)=bq):=by
 unfold rO at a;simp only[bk] at a;obtain⟨⟨⟨⟨l,t⟩,m⟩,o⟩,u,p⟩:=a;refine⟨EE.ok l,λk y=>?_,λid q=>?_,λg s=>?_,λd e w=>?_,λn r x=>?_⟩
 ·grind [oP.ok,alg]
 ·have:=g0.1 m id q;simp_all [gX,hk,bk,jx]
 ·have:=g0.1 o g s;simp_all [gX,hk,bk,jx]
 ·grind [m4.aa7]
 have:=g0.1 p n r;rw[jx] at this;rcases this with a|a
 ·have:n<1000000:=gX a;omega
 split at a
 case h_2=>cases a
 rename_i id j v;simp only[bk] at a;grind [akR,Nat.le_of_ble_eq_true]
def rm (d:aj5) (a c:ak):Prop:=(Cx a=bq->m4 d a->c=a)/\∀f,a=.fj f->∃g,c=.fj g/\∀(e:X) (b:ak),f[e]?=Y b->tQ b=bq->m4 d b->g[e]?=Y b
def rm.refl (a:t=d):rm f d t:=⟨λ_ _=>a,λc b=>⟨c,by rw[a,b],λ_ _ a _ _=>a⟩⟩
theorem rm.oP {a:aj5} {h:Op} {c d:ak} (e:rm a c d) (g:oP h a c=bq):jy.oP h a d=bq:=by
 rcases oP.ok g with⟨r,p,k,l,i,b,f,j,n⟩|⟨i,b,f,j⟩
 ·obtain⟨q,m,o⟩:=e.2 k b;grind [jy.oP]
 rw[e.1 b f];exact g
theorem WJ {ic:gV} {b:bM->ak} {g:bm (X×aG)} {c f:bm ak} (o:h.op=.extract n a) (m:ku ic U e h Y=Y q) (i:U n=.fj c) (j:b n=.fj f) (k:c[a]?=Y d) (l:f[a]?=Y d):ku ic b g h Y=Y q:=by simp_all [kO,g5,EM,ao,mM,vC,sf,ku]
theorem WL {ic:gV} {a:bM->ak} {d:bm (X×aG)} (b:x4 h.op=bq) (f:ku ic U e h Y=Y q) (g:∀c∈h.op.operands,U c=a c):ku ic a d h Y=Y q:=by
 unfold x4 at b;split at b
 ·simp_all [kO,g5,ao,mM,vC,sf,ku,bU]
 grind
theorem Zw (b:.tmp a∈h.op.operands):a∈h.looksAt D:=
 nG _ (List.mem_filterMap.2 ⟨.tmp a,by grind,bn⟩)
theorem Zx {b:bA} (c:h.guard=Y (m,b)) (d:(D[m]?).bind (·.dst)=Y a):a∈h.looksAt D:=
 k1 _ (by grind)
theorem TH {l:aQ} {c:bA} (n:∀k∈h.looksAt D,rm f (gt i.g k) (gt l.g k)) (a:kX D i h c):kX D l h c:=by
 unfold kX at*;cases d:h.guard with
 |none=>grind
 |some p=>
  obtain⟨o,r⟩:=p;rw[d] at a;simp only at a|-;cases e:(D[o]?).bind (·.dst) with
  |none=>grind
  |some m=>
   rw[e] at a;simp only at a|-;have j:=n m (Zx d e);split at a
   ·rename_i s b;rw[j.1 (by rw[b];rfl) (by rw[b];exact .inl (by simp[bS])),b];exact a
   ·rename_i q b;rw[j.1 (by rw[b];rfl) (by rw[b];exact .inl (by simp[bS])),b];exact a
   grind
theorem iK.congr {f:aQ} (e:iK ic D G C a i q) (m:∀c,D[a]?=Y c->∀o∈c.looksAt D,rm (G a) (gt i.g o) (gt f.g o)) (w:∀c,D[a]?=Y c->∀id,id∈G a\/id∈C a\/c.dst=Y id->aq i.h id=aq f.h id) (c1:∀id j,1<=j->id<500000->id+1000000*j∈G a->aq i.h id=aq f.h id):iK ic D G C a f q:=by
 obtain⟨c,x,e⟩:=e;have m:=m c x;have w:=w c x;refine⟨c,x,e.imp (λ⟨s,t,l⟩=>⟨TH m s,?_⟩) (λ⟨s,t⟩=>⟨TH m s,t⟩)⟩;obtain⟨bx,f2,ce,f4,f5,P⟩:=rO.ok l;have n:∀b∈c.op.operands,rm (G a) (aV i.g b) (aV f.g b):=by
  intro b d;cases b with
  |tmp o=>exact m o (Zw d)
  |const ap=>exact .refl (by cases ap<;>rfl)
  |func bs=>exact .refl bn
  |global Q=>exact .refl bn
 constructor
 ·by_cases S:∃b F,c.op=.extract b F
  ·obtain⟨b,F,U⟩:=S;have d:b∈c.op.operands:=(by grind [bU]);rcases f2 b d with⟨J,H,y,j,k,r,z,ci,co⟩|⟨k,_⟩
   ·rw[U] at k;cases k;obtain⟨ds,ay,d0⟩:=(n b d).2 y r;grind [WJ]
   grind
  have A:∀b∈c.op.operands,Cx (aV i.g b)=bq/\m4 (G a) (aV i.g b)/\((∀id∈(aV i.g b).ids,id∈G a\/∃j,1<=j/\id<500000/\id+1000000*j∈G a)\/x4 c.op=bq):=λb d=>by
   rcases f2 b d with⟨J,H,y,j,k,_⟩|⟨_,Q⟩
   ·grind
   omega
  have v:∀b∈c.op.operands,aV i.g b=aV f.g b:=λb d=>((n b d).1 (A b d).1 (A b d).2.1).symm;by_cases c2:x4 c.op=bq
  ·grind [WL]
  have V:∀b∈c.op.operands,∀id∈(aV i.g b).ids,aq i.h id=aq f.h id:=λb d id cv=>(by grind);refine WK t v V (λO R=>w O (.inr (.inr R))) (λI B=>?_);rcases(f4 I B).2 with e|e
  ·grind
  obtain⟨id,p,K,a3,a4,_⟩:=P _ e aa;have:=(f4 I B).1;obtain⟨av,an,b,a0,am,ay,L,M,_,N⟩:=Hm K;grind [akc,tJ,bS]
 unfold rO at*;have:(c.op.operands.toList.all λb=>oP c.op (G a) (aV f.g b))=bq:=(by simp only[bk] at l;rw[g0];intro b d;exact(n b (by grind)).oP (g0.1 l.1.1.1.2 b d));have cs:∀id p,sQ (aV i.g) c=Y (id,p)->sQ (aV f.g) c=Y (id,p):=λid p v=>by
  obtain⟨av,an,b,a0,am,ay,L,M,bl,N⟩:=Hm v;have E:b∈c.op.operands:=(by grind [tJ]);have dl:aV f.g b=aV i.g b:=by
   rcases f2 b E with⟨J,H,y,j,k,_⟩|⟨_,r,z,_⟩
   ·grind
   exact(n b E).1 r z
  grind [sQ]
 have dg:Kt (C a) (aV f.g) c=bq:=by
  simp only[bk] at l;have u:=l.2.2;unfold Kt at u|-;rw[g0] at u|-;intro ad T;have:=u ad T;rw[jx] at this|-;refine this.imp (λe=>e) (λe=>?_);split at e
  case h_2=>cases e
  grind
 grind
theorem iK.EG (g:iK ic D G C a i q) {r:bR} (F:D[a]?=Y r):(∀f c,q.d=Y (f,c)->r.dst=Y f)/\(∀id∈q.S,id<500000/\(id∈C a/\(id+500000∈C a\/lh q.keep (.ref id [])=bq)\/id+1500000∈C a))/\(∀k∈q.put,k.1<500000/\(k.1∈C a\/k.1+1500000∈C a))/\(∀f c,q.d=Y (f,c)->m4 (G a) c)/\(∀id,id<500000->id+1500000∈C a->aq (q.app i).h id=aq i.h id)/\(∀id b e,id∈q.S->id<500000->id+1000000*b+500000∈C a->1<=b->ry e=Y (id,b)->(∀p∈e.ids,p=id\/p∉q.S)->kx q.S q.keep e=bq):=by
 obtain⟨L,n,g⟩:=g;rw[F] at n;cases n;rcases g with⟨_,x,g⟩|⟨_,f,A,_,rfl⟩
 ·obtain⟨u,f2,v,f4,f5,w⟩:=rO.ok g;refine⟨u,v,f4,f5,λid B m=>?_,λid b e l B m K z E=>?_⟩
  ·grind [cH.sR,NX]
  obtain⟨o,M,s,H,I,J⟩:=w _ m aa;obtain rfl:o=id:=aa;obtain⟨y,_⟩:=NX s x;rw[y];refine adm ?_ z E;have:(o+1000000*b+500000)/1000000=b:=aa;grind
 refine⟨λt c j=>?_,by simp[yQ],by simp[yQ],λt c j=>?_,λid _ _=>rfl,λid b e l=>by cases l⟩
 ·cases j;exact A
 cases j;exact .inl (by simp[bS])
structure zk (f S:aj5) (keep:bm (X×bm a6)):Prop where
 a:∀id∈S,id∉f
 b:∀id∈S,id+500000∈f->lh keep (.ref id [])=bq
 c:∀id∈S,∀c v,1<=c->id<500000->id+1000000*c∈f->ry v=Y (id,c)->(∀j∈v.ids,j=id\/j∉S)->kx S keep v=bq
theorem Fh (b:aj5) (c:bm (X×bm a6)) (a:ak):fh b c a=.dead\/fh b c a=a:=by grind [kx,fh]
theorem Ji (b:tQ (fh f g d)=bq):fh f g d=d:=by
 rcases Fh f g d with a|a
 ·rw[a] at b;cases b
 omega
theorem Jh (a:∀id∈d.ids,id∉f):fh f g d=d:=by grind [hk,anM,GB,id,akh]
theorem Yy (a:∀id∈d.ids,id∉f):fK f g d=d:=by grind [hk,anM,Lu,id,akh]
theorem Pb (e:m4 w d) (i:zk w f g):fh f g d=d:=by
 rcases e with e|⟨id,rfl,e⟩|⟨id,o,k,p,q,l⟩
 ·exact Jh λid s h=>i.a id h (e id s)
 ·by_cases h:id∈f
  ·unfold fh;rw[show kx f g (.ref id [])=lh g (.ref id []) from rfl,i.b id h e];simp
  grind [Jh,akc,bS]
 by_cases h:id∈f
 ·unfold fh;rw[i.c id h o d (V4 k) p q k (λn t=>(l n t).imp (λe=>e) (λe h=>i.a n h e))];simp
 exact Jh λm r u=>by
  rcases l m r with j|j
  ·grind
  exact i.a m u j
theorem A3 (b:m4 w d) (e:zk w f g):fK f g d=d:=by
 cases d with
 |fj k=>
  rcases b with b|⟨id,c,_⟩|⟨id,j,c,_⟩
  ·exact Yy λid h i=>e.a id i (b id h)
  ·cases c
  cases c
 |_=>exact Pb b e
theorem Pa (a:aj5) (d:bm (X×bm a6)) (b:aj5) (e:bm (X×bm a6)) (c:ak):fh a d (fh b e c)=fh b e (fh a d c):=by grind [Fh]
theorem O9 (b:∀a,d≠.fj a):fK f g d=fh f g d:=by
 cases d with
 |fj a=>grind
 |_=>rfl
theorem Fg (b:aj5) (d:bm (X×bm a6)) (c:aj5) (e:bm (X×bm a6)) (a:ak):fK b d (fK c e a)=fK c e (fK b d a):=by
 by_cases g:∃f,a=.fj f
 ·obtain⟨f,rfl⟩:=g;simp_all [b6,iJ,Pa,p6,fK]
 grind [Fh,O9,Pa]
theorem YA (l d:aj5) (e:bm (X×bm a6)) (b:ak):rm l (fK d e b) b:=by
 by_cases j:∃a,b=.fj a
 ·obtain⟨a,rfl⟩:=j;refine⟨λc _=>?_,λr m=>⟨a,bn,λq o p i _=>?_⟩⟩
  ·simp only[fK] at c|-;have c:∀g∈a.map (fh d e),tQ g=bq:=g0.1 c;congr 1;rw[iJ (λg n=>Ji (c _ (eQ.2 ⟨g,n,bn⟩))),anO]
  simp only[fK,ak.fj.injEq] at m;grind [Ji,aoM]
 have i:∀a,b≠.fj a:=λa f=>j ⟨a,f⟩;rw[O9 i];have h:∀a,fh d e b≠.fj a:=λa f=>(by grind [Fh]);refine⟨λc _=>?_,λa f=>absurd f (h a)⟩;have:tQ (fh d e b)=bq:=by
  generalize fh d e b=k at c h;cases k with
  |fj a=>grind
  |_=>exact c
 grind [Ji]
theorem YB (a:ak) (d:zk w f g):rm w a (fK f g a):=by refine⟨λ_ c=>A3 c d,λk b=>?_⟩;subst b;refine⟨_,bn,λj e h _ i=>?_⟩;grind [Pb]
def Mt (e:∀b c,q.d=Y (b,c)->b≠a):gt (q.app i).g a=fK q.S q.keep (gt i.g a):=by
 rw[cH.uN];cases f:q.d with
 |none=>rfl
 |some h=>obtain⟨b,c⟩:=h;simp only;rw[au (e b c f)]
def Y8 {c:bm (X×b)} {id:X} (d:∀a∈c,a.1≠id):aq c id=bo:=by
 induction c with
 |nil=>rfl
 |cons a c f=>
  obtain⟨g,h⟩:=a;rw[di,au (d (g,h) ac),f (λa e=>d a (by simp[e]))]
def Mu {id:X} (a:id∉q.S) (b:∀c∈q.put,c.1≠id):aq (q.app i).h id=aq i.h id:=by rw[cH.sR,au a,Y8 b];rfl
def te (b c:aj5):bA:=b.all λa=>!(eX a c)
theorem te.ok (b:te f w=bq):∀a∈f,a∉w:=λa c d=>by have:=g0.1 b a c;rw[hk.2 d] at this;cases this
def dl (b:bR):aj5:=match b.dst with
 |some a=>[a]
 |none=>[]
theorem yh (b:h.dst=Y a):a∈dl h:=by unfold dl;rw[b];simp
def tg (b c:aj5):bA:=b.all λa=>b2 1000000 a||!(eX a c)
theorem tg.ok (a:tg f w=bq):∀b∈f,b<1000000->b∉w:=λb c e d=>by
 have:=g0.1 a b c;rw[hk.2 d,jx] at this;rcases this with a|a
 ·have:=gX a;omega
 cases a
def rT (e d f b:aj5):bA:=(b.all λa=>b9 a 1000000||(!(eX (a %1000000-500000) e)&&(!(eX (a %1000000-500000) d)&&!(eX (a %1000000-500000) f))))&&d.all λc=>b9 c 1000000||(!(eX (c %1000000) b)&&(!(eX (c %1000000+1500000) b)||eX (c+500000) b))
theorem rT.ok {d i:aj5} (a:rT d w i f=bq):(∀id,id<500000->id+1500000∈f->id∉d/\id∉w/\id∉i)/\∀id b,1<=b->id<500000->id+1000000*b∈w->id∉f/\(id+1500000∈f->id+1000000*b+500000∈f):=by
 unfold rT at a;rw[bk] at a;have e:∀{g:X} {h:aj5},(!(eX g h))=bq->g∉h:=λ{g h} a c=>(by rw[hk.2 c] at a;cases a);constructor
 ·intro id k c;have:=g0.1 a.1 _ c;rw[jx] at this;rcases this with a|a
  ·have:id+1500000<1000000:=gX a;omega
  rw[(aa:(id+1500000) %1000000-500000=id)] at a;simp only[bk] at a;exact⟨e a.1,e a.2.1,e a.2.2⟩
 intro id b l k c;have:=g0.1 a.2 _ c;rw[jx] at this;rcases this with a|a
 ·have:id+1000000*b<1000000:=gX a;omega
 rw[(aa:(id+1000000*b) %1000000=id)] at a;simp only[bk,jx] at a;refine⟨e a.1,λj=>?_⟩;rcases a.2 with a|a
 ·exact absurd j (e a)
 exact hk.1 a
def u0 (D:bT bR) (G C:X->aj5) (a b:X):bA:=
 match D[a]?,D[b]? with
 |some d,Y c=>d.apart D c&&tg (C b) (dl d++(G a++C a))&&tg (C a) (dl c++G b)&&(rT (dl d) (G a) (C a) (C b)&&rT (dl c) (G b) (C b) (C a))
 |_,_=>bp
def iK.ye (b:iK ic D G C a i q) {id:X} (m:500000<=id):aq (q.app i).h id=aq i.h id:=by obtain⟨k,c,j⟩:=b;have b:iK ic D G C a i q:=⟨k,c,j⟩;obtain⟨_,d,e,_⟩:=b.EG c;exact Mu (λf=>by have:=(d id f).1;omega) (λl g q=>by have:=(e l g).1;omega)
def iK.tF (d:iK ic D G C a i q) {id:X} (e:id∉C a):aq (q.app i).h id=aq i.h id:=by
 obtain⟨o,f,n⟩:=d;have d:iK ic D G C a i q:=⟨o,f,n⟩;obtain⟨_,g,j,_,k,_⟩:=d.EG f;by_cases c:id<500000/\id+1500000∈C a
 ·exact k id c.1 c.2
 refine Mu (λl=>?_) (λp m q=>?_)
 ·obtain⟨ay,b⟩:=g id l;rcases b with b|b
  ·exact e b.1
  exact c ⟨ay,b⟩
 subst q;obtain⟨ay,b⟩:=j p m;rcases b with b|b
 ·exact e b
 exact c ⟨ay,b⟩
theorem iK.swap {e:cH} (l:u0 D G C m a=bq) (o:iK ic D G C m i e) (B:iK ic D G C a (e.app i) q):iK ic D G C a i q/\iK ic D G C m (q.app i) e/\kH (q.app (e.app i)) (e.app (q.app i)):=by
 unfold u0 at l;split at l
 case h_2=>cases l
 rename_i a3 a0 ap an;simp only[bk] at l;obtain⟨⟨⟨c2,J⟩,K⟩,ds,d0⟩:=l;have J:=tg.ok J;have K:=tg.ok K;obtain⟨cv,U⟩:=rT.ok ds;obtain⟨c1,V⟩:=rT.ok d0;obtain⟨ce,ci,co⟩:=Oper.apart_spec c2;obtain⟨bs,T,el,em,eq,bx⟩:=o.EG ap;obtain⟨i1,N,d4,d5,d6,av⟩:=B.EG an;have d8:∀p∈a0.looksAt D,gt (e.app i).g p=fK e.S e.keep (gt i.g p):=λp A=>Mt λj w z y=>ce j (bs j w z) (y▸A);have d7:∀p∈a3.looksAt D,gt (q.app i).g p=fK q.S q.keep (gt i.g p):=λp A=>Mt λj w z y=>co j (i1 j w z) (y▸A);have L:∀j H t I,q.d=Y (j,H)->e.d=Y (t,I)->j≠t:=λj H t I z dg y=>ci t (bs t I dg) (y▸i1 j H z);have E:∀id,id<1000000->id∈G m\/id∈C m\/a3.dst=Y id->id∉C a:=λid h c s=>J id s h (by
  rcases c with c|c|c
  ·simp[c]
  ·simp[c]
  simp[yh c])
 have bl:∀id,id<1000000->id∈G a\/a0.dst=Y id->id∉C m:=λid h c s=>K id s h (by
  rcases c with c|c
  ·simp[c]
  simp[yh c])
 have d3:∀id,id<1000000->id∈C a->id∉C m:=λid h c s=>E id h (.inr (.inl s)) c;have ek:zk (G a) e.S e.keep:=by
  refine⟨λid k f=>?_,λid k f=>?_,λid k r R l n f M x=>?_⟩
  ·obtain⟨ay,b⟩:=T id k;rcases b with b|b
   ·exact bl id aa (.inl f) b.1
   exact(c1 id ay b).2.1 f
  ·obtain⟨ay,b⟩:=T id k;rcases b with b|b
   ·exact b.2.resolve_left (bl _ aa (.inl f))
   exact bx id 1 (.ref id []) k ay (by rw[(aa:id+1000000*1+500000=id+1500000)];exact b) (bd _) rfl (λd1 x=>.inl (by simpa[bS] using x))
  obtain⟨_,b⟩:=T id k;obtain⟨a4,Q⟩:=V id r l n f;rcases b with b|b
  ·exact absurd b.1 a4
  exact bx id r R k n (Q b) l M x
 have d9:zk (G m) q.S q.keep:=by
  refine⟨λid k f=>?_,λid k f=>?_,λid k r R l n f M x=>?_⟩
  ·obtain⟨ay,b⟩:=N id k;rcases b with b|b
   ·exact E id aa (.inl f) b.1
   exact(cv id ay b).2.1 f
  ·obtain⟨ay,b⟩:=N id k;rcases b with b|b
   ·exact b.2.resolve_left (E _ aa (.inl f))
   exact av id 1 (.ref id []) k ay (by rw[(aa:id+1000000*1+500000=id+1500000)];exact b) (bd _) rfl (λd1 x=>.inl (by grind [bS]))
  obtain⟨_,b⟩:=N id k;obtain⟨a4,Q⟩:=U id r l n f;rcases b with b|b
  ·grind
  exact av id r R k n (Q b) l M x
 have v:iK ic D G C a i q:=by
  refine B.congr (λO u p A=>?_) (λO u id n=>?_) (λid r l n f=>?_)
  ·grind [YA]
  ·rw[an] at u;cases u;rcases cT id 500000 with h|h
   ·refine o.tF ?_;rcases n with c|c|c
    ·grind
    ·grind
    grind
   exact o.ye h
  exact o.tF (V id r l n f).1
 have F:iK ic D G C m (q.app i) e:=by
  refine o.congr (λO u p A=>?_) (λO u id n=>?_) (λid r l n f=>?_)
  ·grind [YB]
  ·rw[ap] at u;cases u;rcases cT id 500000 with h|h
   ·exact(v.tF (E id aa n)).symm
   exact(v.ye h).symm
  exact(v.tF (U id r l n f).1).symm
 refine⟨v,F,?_,λid=>?_⟩
 ·intro p;rw[cH.uN q,cH.uN e (q.app i),cH.uN e i,cH.uN q i];cases dl:e.d with
  |none=>
   cases ad:q.d with
   |none=>grind [Fg]
   |some P=>
    obtain⟨j,w⟩:=P;simp only;split
    ·grind [A3]
    grind [Fg]
  |some d2=>
   obtain⟨t,cs⟩:=d2;cases ad:q.d with
   |none=>
    simp only;split
    ·grind [A3]
    grind [Fg]
   |some P=>
    obtain⟨j,w⟩:=P;have L:j≠t:=L j w t cs ad dl;simp only;by_cases o:j=p
    ·subst o;rw[aw bn,au (Ne.symm L),aw bn];grind [A3]
    rw[au o,au o];split
    ·grind [A3]
    grind [Fg]
 rcases cT id 500000 with h|h
 ·by_cases s:id∈C a
  ·have am:=d3 id aa s;rw[F.tF am,cH.sR q,cH.sR q,o.tF am]
  rw[B.tF s,cH.sR e,cH.sR e,v.tF s]
 rw[B.ye h,o.ye h,F.ye h,v.ye h]
def iK.seq {c:aQ} (b:kH i c) (d:iK ic D G C a i q):iK ic D G C a c q:=
 d.congr (λ_ _ e _=>.refl (b.g e).symm) (λ_ _ id _=>b.h id) (λid _ _ _ _=>b.h id)
def ox.seq:∀{c:aj5} {d e f:aQ},kH d e->ox ic D G C c d f->ox ic D G C c e f
 |[],_,_,_,a,h=>a.symm.trans h
 |_::_,_,_,_,a,⟨b,g,i⟩=>⟨b,g.seq a,ox.seq (a.app b) i⟩
theorem ox.front {g:X} {h:aj5}:∀{b:aj5} {a d:aQ},(∀x∈b,u0 D G C x g=bq)->ox ic D G C (b++g::h) a d->∃c,iK ic D G C g a c/\ox ic D G C (b++h) (c.app a) d
 |[],a,d,_,⟨c,e,f⟩=>⟨c,e,f⟩
 |x::b,a,d,i,⟨k,e,f⟩=>by obtain⟨j,o,p⟩:=ox.front (λq r=>i q (by grind)) f;obtain⟨l,m,n⟩:=iK.swap (i x ac) e o;exact⟨j,l,k,m,p.seq n⟩
end
end
section
section
variable {ic:gV} {F:bT bR} {iS h9:X->aj5}
theorem AY {D:Type} {y:aQ->bv D} {C:D}:∀{w:aj5} {b:aQ},tw ic F iS h9 w b y=Y C->∃c,ox ic F iS h9 w b c/\y c=Y C
 |[],b,a=>⟨b,kH.refl b,a⟩
 |i::w,b,a=>by
  simp only[tw] at a;split at a
  ·cases a
  rename_i o m;split at a
  ·rename_i A;obtain⟨k,s,t,u⟩:=NZ a;obtain⟨c,f,j⟩:=AY u;exact⟨c,⟨k,⟨o,m,.inl ⟨by grind [kX],s,t⟩⟩,f⟩,j⟩
  rename_i I x A;split at a
  case h_2=>cases a
  rename_i r e G z;split at a
  case h_3=>cases a
  case h_2=>
   rename_i K B;cases l:gA ic.n ic.pin e with
   |false=>grind
   |true=>
   rw[l] at a;obtain⟨c,f,j⟩:=AY a;refine⟨c,⟨yQ e,⟨o,m,.inr ⟨?_,e,z,l,bn⟩⟩,f⟩,j⟩;grind [kX]
  rename_i d B;cases l:gA ic.n ic.pin e with
  |false=>grind
  |true=>
  rw[l] at a;simp only[bG] at a;have p:∀q,d=q->kH ⟨(r,.val .bool q)::b.g,b.h⟩ b:=λq v=>⟨λJ=>by
   grind [jk],λ_=>rfl⟩
  split at a
  ·rename_i v;obtain rfl:d=x:=(by grind);obtain⟨k,s,t,u⟩:=NZ a;obtain⟨c,f,j⟩:=AY u;have E:iK ic F iS h9 i ⟨(r,.val .bool d)::b.g,b.h⟩ k:=by
    refine⟨o,m,.inl ⟨?_,s,t⟩⟩;unfold kX;rw[A];simp only[G,(p d bn).g r,B];simp
   exact⟨c,⟨k,E.seq (p d bn),f.seq ((p d bn).app k)⟩,j⟩
  rename_i v;have H:d=!x:=by cases d<;>cases x<;>first|rfl|cases v
  obtain⟨c,f,j⟩:=AY a;refine⟨c,⟨yQ e,⟨o,m,.inr ⟨?_,e,z,l,bn⟩⟩,f.seq ((p _ H).app (yQ e))⟩,j⟩;grind [kX]
structure lU where
 i:X
 d:aj5
 aq:aj5
 ps:aj5
 iS:aj5
 h9:aj5
def tn:aj5->aj5->bA
 |[],[]=>bq
 |a::c,b::d=>bH a b&&tn c d
 |_,_=>bp
theorem qy:∀{c d:aj5},tn c d=bq->c=d
 |[],[],_=>rfl
 |a::c,e::d,b=>by simp only[tn,bk] at b;rw[fA b.1,qy b.2]
 |[],_::_,b=>by cases b
 |_::_,[],b=>by cases b
def qT (F:bT bR) (iS h9:X->aj5) (a:lU):bA:=match F[a.i]? with
 |some b=>tn (dl b) a.d&&tn (b.looksAt F) a.aq&&tn (qP F a.i) a.ps&&tn (iS a.i) a.iS&&tn (h9 a.i) a.h9
 |none=>bp
def HP (a b:lU):bA:=te a.d b.aq&&te a.d b.d&&te b.d a.aq&&tg b.h9 (a.d++(a.iS++a.h9))&&tg a.h9 (b.d++b.iS)&&(rT a.d a.iS a.h9 b.h9&&rT b.d b.iS b.h9 a.h9)
theorem Wf {j h:lU} (b:qT F iS h9 j=bq) (a:qT F iS h9 h=bq) (c:HP j h=bq):u0 F iS h9 j.i h.i=bq:=by
 unfold qT at b a;split at b
 case h_2=>cases b
 rename_i v q;split at a
 case h_2=>cases a
 rename_i u p;simp only[bk] at b a;obtain⟨⟨⟨⟨w,x⟩,D⟩,y⟩,z⟩:=b;obtain⟨⟨⟨⟨i1,r⟩,A⟩,s⟩,t⟩:=a;unfold HP at c;rw[<-qy w,<-qy x,<-qy y,<-qy z,<-qy i1,<-qy r,<-qy s,<-qy t] at c;simp only[bk] at c;obtain⟨⟨⟨⟨⟨e,f⟩,k⟩,l⟩,m⟩,n,o⟩:=c;unfold u0;simp only[q,p,l,m,n,o,am1];have e:=te.ok e;have f:=te.ok f;have k:=te.ok k;unfold Oper.apart;rw[bk];constructor
 ·cases g:v.dst with
  |none=>rfl
  |some d=>
   have B:=e d (yh g);have C:=f d (yh g);simp only[bk,uo];refine⟨?_,?_⟩
   ·grind
   rw[bne_iff_ne];grind [yh]
 cases g:u.dst with
 |none=>rfl
 |some d=>
  simp_all [Bool.not_eq_true,List.contains_iff_mem,uo,yh]
def lG (a b:X):bA:=bH (Nat.land (Nat.shiftRight a b) 1) 1
def Hh (a b:X):X:=anX a (Nat.shiftLeft 1 b)
theorem zC:lG a m=bq↔a.testBit m=bq:=by simp_all [amm,akb,fA,Nat.shiftRight_eq_div_pow,Nat.and_one_is_mod,Nat.testBit_eq_decide_div_mod_eq,bH,lG]
theorem MR {b:X} (c:lG (anX m b) a=bq):lG m a=bq\/lG b a=bq:=by simp_all [aoN,zC]
theorem MQ {c:X} (b:lG (Hh m c) a=bq):lG m a=bq\/a=c:=by
 rcases MR b with b|b
 ·grind
 simp_all [zC,Nat.shiftLeft_eq,mB,anY,amm]
theorem CI (b:lG 0 a=bq):False:=by grind [zC]
def zu (a:aj7):aj5->X
 |[]=>0
 |p::b=>anX (Hh ((jy.aq a p).getD 0) p) (zu a b)
theorem Mm {e:aj7}:∀{d:aj5} {b:X},lG (zu e d) b=bq->∃p∈d,b=p\/∃c,jy.aq e p=Y c/\lG c b=bq
 |[],_,a=>(CI a).elim
 |p::d,b,a=>by
  rcases MR a with a|a
  ·refine⟨p,ac,?_⟩;rcases MQ a with a|a
   ·cases g:jy.aq e p with
    |none=>grind [CI]
    |some c=>grind
   omega
  obtain⟨i,h,f⟩:=Mm a;grind
def CN (c:X):X->bm lU->aj7->bm lU->bA
 |_,_,_,[]=>bq
 |sm,d,b,a::f=>
  a.ps.all (λg=>lG sm g)&&(d.all λe=>lG (zu b a.ps) e.i||HP e a)&&!(lG sm a.i)&&b9 a.i c&&CN c (Hh sm a.i) (a::d) ((a.i,zu b a.ps)::b) f
def ld (a:bm lU):aj5:=a.map (·.i)
def uU (F:bT bR) (iS h9:X->aj5) (a:bm lU):bA:=a.all (qT F iS h9)&&CN F.size 0 [] [] a&&((bJ F.size).all λb=>eX b (ld a))&&b2 a.length F.size
def Cb (F:bT bR) (a:X->Prop):Prop:=∀b,a b->∀c∈qP F b,a c
theorem qT.ps {b:lU} (a:qT F iS h9 b=bq):qP F b.i=b.ps:=by
 unfold qT at a;split at a
 case h_2=>cases a
 simp only[bk] at a;grind [qy]
theorem HL:∀{q j:bm lU} {o:X} {s:aj7},CN F.size o j s q=bq->(∀r∈q,qT F iS h9 r=bq)->(∀r∈j,qT F iS h9 r=bq)->(∀h,lG o h=bq->h∈ld j)->(∀h∈ld j,lG o h=bq)->(∀e v,jy.aq s e=Y v->∀b,Cb F b->b e->∀a,lG v a=bq->b a)->∀f g p,ld q=f++g::p->(∀e∈qP F g,e∈ld j\/e∈f)/\(∀b,Cb F b->(∀e∈qP F g,b e)->∀a,(a∈ld j\/a∈f)->¬b a->u0 F iS h9 a g=bq)/\g∉ld j/\g∉f/\g<F.size
 |[],_,_,_,t,_,_,_,_,M,f,g,p,m=>by cases f<;>cases m
 |r::q,j,o,s,t,z,S,d,J,M,f,g,p,m=>by
  simp only[CN,bk,g0,uo] at t;obtain⟨⟨⟨⟨E,G⟩,x⟩,H⟩,I⟩:=t;have L:=z r ac;have K:=qT.ps L;have x:r.i∉ld j:=λk=>(by grind);have N:∀b,Cb F b->(∀e∈qP F r.i,b e)->∀a,lG (zu s r.ps) a=bq->b a:=(by grind [Mm]);cases f with
  |nil=>
   cases m;refine⟨λe l=>.inl (d _ (E e (K▸l))),λb n l a c y=>?_,x,ac,gX H⟩;rcases c with c|c
   ·obtain⟨P,O,rfl⟩:=eQ.1 c;have:=G P O;rcases jx _ _▸this with d|d
    ·grind
    grind [Wf]
   grind
  |cons Q f=>
   simp only[ld,gW,kF,h4] at m;obtain⟨rfl,m⟩:=m;obtain⟨B,C,w,R,D⟩:=HL I (λa c=>z a (by grind)) (λa c=>by
    grind) (λh k=>by
    rcases MQ k with k|rfl
    ·exact gC _ (d h k)
    ·exact js ..) (λh k=>by
    rw[zC];show(o|||(1<<<r.i)).testBit h=bq;rw[aoN,jx];rcases fC.1 k with rfl|k
    ·grind
    ·left;exact zC.1 (J h k)) (λe v u b n l a c=>by
    rw[di] at u;split at u
    ·rename_i A;cases u;subst A;exact N b n (n _ l) a c
    grind) f g p m
   refine⟨λe l=>?_,λb n l a c y=>C b n l a ?_ y,λd=>w (gC _ d),λd=>?_,D⟩
   ·rcases B e l with d|d
    ·rcases fC.1 d with rfl|d
     ·grind
     exact .inl d
    grind
   ·rcases c with c|c
    ·exact .inl (gC _ c)
    rcases fC.1 c with rfl|c
    ·exact .inl (js ..)
    grind
   rcases fC.1 d with rfl|d
   ·exact w (js ..)
   grind
variable {E:fF} {C:e4}
theorem iK.wp (h:ic.ae E C) (d:iK ic F iS h9 a i q) {b:Act} (g:gM C i b.tmps v) {next:Act->bC->Prop} (p:∀c j,c.defers=b.defers->gM C (q.app i) c.tmps j->next c j):wpOp E.P F o a next b v:=by
 obtain⟨w,r,d⟩:=d;obtain⟨k,t,l,e⟩:=id g;unfold wpOp;simp only[r];rcases d with⟨f,m,_⟩|⟨f,u,n,s,rfl⟩
 ·rw[f.ok e,aw bn];refine .inl (NY h m b v g _ _ ?_);grind
 rw[f.ok e,au ac,n];exact p _ v bn ⟨k,t,l,e.put (gA.ok h s) (.dh bV)⟩
def left (a:aj5) (c:bT bA):aj5:=a.filter λb=>!c.getD b bq
theorem Pk {b:bT bA} {c:aj5} (g:left f b=w++a::c) (h:a∉w) (i:a∉c) (j:a<b.size):left f (b.setIfInBounds a bq)=w++c:=by
 have:left f (b.setIfInBounds a bq)=(left f b).filter λd=>!(d==a):=by
  unfold left;rw[zb];refine p0 λd _=>?_;by_cases e:a=d
  ·simp_all
  rw[anZ bq e];grind
 grind [alB,List.filter_cons_of_neg]
theorem Ky (c:F[a]?=Y h):m∈qP F a↔∃b∈h.after,anW .any b=bq/\b.on=m:=by grind [qP]
theorem Va (d3:ic.ae E C) {R:bm lU} (dg:f=ld R) (r:uU F iS h9 R=bq) {t:aQ} {ds:bm Deferred} (am:∀d g,d.defers=ds->gM C t d.tmps g->o .normal d g):∀(q:X) (a:bT bA) (d:Act) (g:bC) (w:aQ),a.size=F.size->(left f a).length<=q->Cb F (λe=>a.getD e bq=bq/\e<F.size)->ox ic F iS h9 (left f a) w t->gM C w d.tmps g->d.defers=ds->wpAny E.P .any F o q a d g:=by
 unfold uU at r;simp only[bk,g0,gD] at r;obtain⟨⟨⟨el,r⟩,an⟩,_⟩:=r;have I:=HL r el ac (λe d4=>(CI d4).elim) (by simp[ld]) (λH f4 c=>by cases c);rw[<-dg] at I an;have Q:∀i,i<F.size->i∈f:=λi M=>hk.1 (an i M);have ft:∀{a:bT bA} {e:X},a.size=F.size->e<F.size->a.getD e bq=bq->a.getD e bp=bq:=(by grind);have a4:∀{a:bT bA} {i:X},a.size=F.size->i∈an0 .any F a->i<F.size/\a.getD i bq=bp/\∃m,F[i]?=Y m/\∀b∈m.after,anW .any b=bq->a.getD b.on bp=bq:=(by grind [Array.getElem?_eq_some_iff,mem_ready]);have first:∀{a:bT bA} {i:X} {K:aj5},a.size=F.size->left f a=i::K->i∈an0 .any F a:=by
  intro a i K D N;have u:i∈left f a:=(by grind);have d2:i∈f:=(hU.1 u).1;have em:a.getD i bq=bp:=(by simpa using(hU.1 u).2);obtain⟨h,n,z⟩:=wQ d2;obtain⟨ci,_,_,x,cs⟩:=I h i n z;obtain⟨m,v⟩:∃m,F[i]?=some m:=⟨_,B7 cs⟩;refine mem_ready.2 ⟨em,m,v,λb k s=>?_⟩;have p:b.on∈qP F i:=(Ky v).2 ⟨b,k,s,bn⟩;have fT:b.on∈h:=by
   rcases ci _ p with c|c
   ·cases c
   omega
  have f1:∀j∈h,a.getD j bq=bq:=by
   intro j G;cases eq:a.getD j bq with
   |true=>rfl
   |false=>
    obtain⟨J,bl,ad⟩:=wQ G;have:left f a=left J a++j::(left bl a++left (i::n) a):=(by show amn _ f=_;rw[z,ad];simp only[left,o5,lZ,eq,kZ,kF];rfl);rw[N] at this;cases c2:left J a with
    |nil=>grind
    |cons f5 fn=>
     rw[c2] at this;cases this;have:i∈left J a:=(by grind);exact absurd (by rw[ad];exact nG _ (hU.1 this).1) x
  have a3:b.on<F.size:=(by have:b.on∈f:=(by grind);obtain⟨fr,fs,fz⟩:=wQ this;grind);grind
 intro q
 induction q with
 |zero=>
  intro a d g w D d6 L l A B;have d8:left f a=[]:=List.length_eq_zero_iff.1 aa;rw[d8] at l;refine⟨?_,am d g B (A.seq l)⟩;cases ek:an0 .any F a with
  |nil=>rfl
  |cons i fn=>
   obtain⟨y,cv,_⟩:=a4 D (i:=i) (by grind);have:i∈left f a:=hU.2 ⟨Q i y,by grind⟩;grind
 |succ q fl=>
  intro a d g w D d6 L l A B;constructor
  ·intro ek;cases N:left f a with
   |nil=>rw[N] at l;exact am d g B (A.seq l)
   |cons i K=>
    grind
  intro i M;obtain⟨y,cv,m,v,T⟩:=a4 D M;have u:i∈left f a:=hU.2 ⟨Q i y,by grind⟩;obtain⟨h,n,z⟩:=wQ (Q i y);obtain⟨_,co,_,x,_⟩:=I h i n z;have ap:i∉n:=(by intro u;obtain⟨bs,bx,f0⟩:=wQ u;have:=(I (h++i::bs) i bx (by grind)).2.2.2.1;grind);have O:left f a=left h a++i::left n a:=(by grind [left,amn]);have d0:∀j∈left h a,u0 F iS h9 j i=bq:=(by intro j G;obtain⟨ex,f3⟩:=hU.1 G;refine co _ L (λH p=>?_) j (.inr ex) (λG=>by grind);obtain⟨b,k,s,rfl⟩:=(Ky v).1 p;have U:=T b k s;have a3:b.on<a.size:=(by grind);grind);rw[O] at l;obtain⟨b,k,f2⟩:=ox.front d0 l;refine k.wp d3 A (λce fp d1 dl=>fl _ ce fp (b.app w) (by grind) ?_ ?_ ?_ dl (d1.trans B))
  ·rw[Pk O (λc=>x (hU.1 c).1) (λc=>ap (hU.1 c).1) aa];grind
  ·intro e ⟨av,d5⟩ H p;by_cases a0:i=e
   ·subst a0;obtain⟨b,k,s,rfl⟩:=(Ky v).1 p;have U:=T b k s;have a3:b.on<a.size:=by
     grind
    have V:=getD_set_true (i:=i) U;refine⟨?_,aa⟩;have d7:b.on<(a.setIfInBounds i bq).size:=(by grind);have ao:∀S,(a.setIfInBounds i bq).getD b.on S=(a.setIfInBounds i bq)[b.on]:=λS=>(by simp only[Array.getD,d7,alm];rfl);grind
   rw[anZ bq a0] at av;obtain⟨V,c1⟩:=L e ⟨av,d5⟩ H p;refine⟨?_,c1⟩;by_cases d9:i=H
   ·grind
   rw[anZ bq d9];exact V
  rw[Pk O (λc=>x (hU.1 c).1) (λc=>ap (hU.1 c).1) aa];omega
theorem J.draw (A:E.P.follows .mixedOrders=bq) (x:ic.ae E C) {g:aQ->bv b} {h:b} {id:X} {a:bm lU} (c:uU F iS h9 a=bq) (e:tw ic F iS h9 (ld a) i g=Y h) (r:∀j,g j=Y h->y .normal j):J E C (.region id F bq) i y:=by
 obtain⟨d,K,p⟩:=AY e;intro n H f u;refine wp_region_any A ?_;have L:left (ld a) (anJ F.size bp)=ld a:=(by refine mA.2 λB w=>?_;unfold uU at c;simp only[bk,g0] at c;obtain⟨k,l,q⟩:=wQ w;have:=(HL c.1.1.2 c.1.1.1 ac (λD z=>(CI z).elim) (by simp[ld]) (λQ R e=>by cases e) k B l q).2.2.2.2;simp_all);have O:(ld a).length<=F.size:=(by simp_all [gX,eP,bk,ld,uU]);refine Va x bn c (t:=d) (ds:=[]) (λI S v s=>⟨d,r d p,s,v⟩) F.size _ n _ i ac (by grind) ?_ (by grind) ?_ u
 ·intro D ⟨M,N⟩;simp_all
 obtain⟨m,G,o,f⟩:=f;exact⟨m,G,o,f.X2 (hz.refl H).drew⟩
end
end
section
def kc:bm a6->ah->ah
 |[],e=>j0 e
 |.deref::a,.optr d=>.optr (kc a d)
 |.unst::a,.st d=>.st (kc a d)
 |.fst::a,.pr b c=>.pr (kc a b) c
 |.snd::a,.pr b c=>.pr b (kc a c)
 |_,e=>e
def oI:bm a6->ah->bA
 |[],e=>rP e
 |.deref::a,.optr b=>oI a b
 |.unst::a,.st b=>oI a b
 |.fst::a,.pr c _=>oI a c
 |.snd::a,.pr _ d=>oI a d
 |_,_=>bp
def vD:∀(a:bm a6) (e:ah),oI a e=bq->(kc a e).den=e.den
 |[],e,_=>rR e
 |.deref::a,.optr f,b=>vD a f b
 |.unst::a,.st f,b=>vD a f b
 |.fst::a,.pr c d,b=>by show((kc a c).den×d.den)=(c.den×d.den);rw[vD a c b]
 |.snd::a,.pr c d,b=>by show(c.den×(kc a d).den)=(c.den×d.den);rw[vD a d b]
def xW:∀(a:bm a6) (c:ah),oI a c=bq->(kc a c).size=c.size
 |[],c,_=>tu c
 |.deref::a,.optr f,b=>rfl
 |.unst::a,.st f,b=>xW a f b
 |.fst::a,.pr d e,b=>by simp only[kc,aku,xW a d b]
 |.snd::a,.pr d e,b=>by simp only[kc,aku,xW a e b]
def oH (b:bm a6) (a:ah) (c:oI b a=bq) (d:a.den):(kc b a).den:=cast (vD b a c).symm d
theorem BB {E:eE->X->Prop} {w:bC}:∀{p:bm a6} {τ:ah} {m:ey} {x:τ.den} {h:aj5} (c:oI p τ=bq),aU E w τ m x h->h.Nodup->∃f f2:aj5,(∀a,a∈h↔a∈f\/a∈f2)/\(∀a∈f,a∉f2)/\f.Nodup/\∀g:eE->X->Prop,(∀o a,E o a->g o a)->(∀a∈f2,g .bg a)->aU g w (kc p τ) m (oH p τ c x) f
 |[],τ,m,x,h,c,i,e=>⟨[],h,ac,ac,List.nodup_nil,λg j n=>wi j c i n⟩
 |.deref::p,.optr y,m,x,h,c,i,e=>by
  obtain⟨a,L,l,G,r,rfl,H,I,J,K⟩:=i;rw[jS] at e;obtain⟨f,f2,ay,s,t,u⟩:=BB (p:=p) (τ:=y) c K e.2;refine⟨a::f,f2,λb=>by simp only[fC,ay];grind,λb d=>?_,?_,λg j n=>?_⟩
  ·rcases fC.1 d with rfl|d
   ·exactλl=>e.1 ((ay b).2 (.inr l))
   exact s b d
  ·rw[jS];exact⟨λl=>e.1 ((ay a).2 (.inl l)),t⟩
  have F:=xW p y c;exact⟨a,L,f,G,r,bn,by rw[F];exact H,I,by rw[F];exact J,u g j n⟩
 |.unst::p,.st y,m,x,h,c,i,e=>BB (p:=p) (τ:=y) (x:=x) c i e
 |.fst::p,.pr k a,m,x,h,c,i,e=>by
  obtain⟨z,A,rfl,r,B⟩:=i;rw[jt] at e;obtain⟨f,f2,ay,s,t,u⟩:=BB (p:=p) (τ:=k) c r e.1;refine⟨f++A,f2,λb=>by simp only[hn,ay];grind,λb d=>?_,?_,λg j n=>?_⟩
  ·rcases hn.1 d with d|d
   ·exact s b d
   exactλl=>e.2.2 b ((ay b).2 (.inr l)) b d bn
  ·rw[jt];exact⟨t,e.2.1,λb d v D=>e.2.2 b ((ay b).2 (.inl d)) v D⟩
  have q:oH (.fst::p) (.pr k a) c x=(oH p k c x.1,x.2):=HI (vD p k c).symm bn _ x;refine⟨f,A,bn,?_,?_⟩
  ·rw[xW p k c,q];exact u g j n
  rw[xW p k c,q];exact B.mono (λo a C=>⟨j o a C,cp _ _⟩) λ_ _=>cp _ _
 |.snd::p,.pr k a,m,x,h,c,i,e=>by
  obtain⟨z,A,rfl,r,B⟩:=i;rw[jt] at e;obtain⟨f,f2,ay,s,t,u⟩:=BB (p:=p) (τ:=a) c B e.2.1;refine⟨z++f,f2,λb=>by simp only[hn,ay];grind,λb d=>?_,?_,λg j n=>?_⟩
  ·rcases hn.1 d with d|d
   ·exactλl=>e.2.2 b d b ((ay b).2 (.inr l)) rfl
   exact s b d
  ·rw[jt];exact⟨e.1,t,λb d v D=>e.2.2 b d v ((ay v).2 (.inl D))⟩
  have q:oH (.snd::p) (.pr k a) c x=(x.1,oH p a c x.2):=HI bn (vD p a c).symm _ x;refine⟨z,f,bn,?_,?_⟩
  ·rw[q];exact r.mono (λo a C=>⟨j o a C,cp _ _⟩) λ_ _=>cp _ _
  rw[q];exact u g j n
def qA (id:X):ak->ak
 |.ref b []=>.ref b []
 |a=>bif a.fx [id] then .dead else a
def IT (id:X) (b:bm a6) (a:aG) (d:oI b a.1=bq) (st:aQ):aQ:=⟨st.g.map λc=>(c.1,qA id c.2),(id,⟨kc b a.1,oH b a.1 d a.2⟩)::del [id] st.h⟩
def XN (id:X) (a:ak):(∃b,a=.ref b []/\qA id a=.ref b [])\/(qA id a=.dead)\/(qA id a=a/\a.fx [id]=bp):=by
 have d:∀a:ak,qA id a=(bif a.fx [id] then .dead else a)->(∃b,a=.ref b []/\qA id a=.ref b [])\/(qA id a=.dead)\/(qA id a=a/\a.fx [id]=bp):=by
  intro a c;cases e:a.fx [id] with
  |true=>rw[e] at c;exact .inr (.inl c)
  |false=>rw[e] at c;exact .inr (.inr ⟨c,bn⟩)
 cases a with
 |ref b f=>
  cases f with
  |nil=>exact .inl ⟨b,bn,bn⟩
  |cons g f=>exact d _ rfl
 |_=>exact d _ rfl
def XO:∀(a:bm a6) (c:ah) (b:ey),a≠[]->oI a c=bq->c0 (kc a c) b=c0 c b
 |[],_,_,h,_=>absurd rfl h
 |.deref::a,.optr f,b,_,_=>rfl
 |.unst::a,.st f,b,_,_=>rfl
 |.fst::a,.pr d e,b,_,_=>rfl
 |.snd::a,.pr d e,b,_,_=>rfl
section
variable {C:e4} {st:aQ} {A:ev} {w:bC}
def cK.XH (o:cK C st A w N O x) {id:X} (I:j≠[]) (m:aq st.h id=Y P) (c:oI j P.1=bq):gM C (IT id j P c st) A w:=by
 obtain⟨R,T,u⟩:=o.tree id P m;obtain⟨v,f2,ay,K,L,Q⟩:=BB c R T;have F:∀n a,be N C.B n a->be (λa=>N a\/a∈f2) C.B n a:=by
  intro n a b;cases n
  ·exact .inl b
  exact b.imp .inl (λc=>c)
 have z:=o.eB (S:=[id]) (keep:=[]) (new:=[(id,⟨kc j P.1,oH j P.1 c P.2⟩)]) (rtn:=O) (fpn:=λ_=>v) (w':=w) (I':=λa=>N a\/a∈f2) ⟨bd _,bn,bn,bn,λ_ _ _=>rfl,λ_ _=>.refl _ _,λ_ c=>.inl c,λa b=>b.imp (λc=>c) λb=>⟨(u a ((ay a).2 (.inr b))).2.2.1,.inr ⟨id,ac,P,m,(ay a).2 (.inr b)⟩⟩,(λd U e=>by
    rw[di] at e;split at e
    ·rename_i f;subst f;cases e;refine⟨.inl ac,Q _ F (λa b=>.inr b),L,λa b=>⟨λl=>?_,(u a ((ay a).2 (.inl b))).2.2.1,.inr ⟨id,ac,P,m,(ay a).2 (.inl b)⟩⟩⟩;rcases l with l|l
     ·exact(u a ((ay a).2 (.inl b))).1 l
     exact K a b l
    cases e),
   (λd ad U V e r y=>by
    rw[di] at e r;split at e
    ·split at r
     ·omega
     cases r
    cases e),(λf q=>by cases q),(λf q=>by cases q)⟩
 refine⟨_,_,_,{z with tmp:=λi=>?_}⟩;have s:=o.tmp i;have k:=z.tmp i;rw[show gt (aQ.mk (akm [id] [] st.g) ([(id,⟨kc j P.1,oH j P.1 c P.2⟩)]++del [id] st.h)).g i=fK [id] [] (gt st.g i) from qD _ _ _ _] at k;have G:gt (IT id j P c st).g i=qA id (gt st.g i):=I1 (qA id) rfl st.g i;rw[G];generalize gt st.g i=E at s k;generalize A.getD i bV=V at s k;rcases XN id E with⟨d,rfl,f⟩|f|⟨f,J⟩
 ·rw[f];by_cases e:d=id
  ·subst e;cases s with|ref D H=>
   rw[m] at D;cases D;obtain⟨rfl,rfl,rfl⟩:=akx.1 H;have:=cP.ref (M:=be (λa=>N a\/a∈f2) C.B) (w:=w) (h:=[(d,(⟨kc j P.1,oH j P.1 c P.2⟩:aG))]++del [d] st.h) (rt:=fk [(d,(⟨kc j P.1,oH j P.1 c P.2⟩:aG))] O O) (fp:=fk [(d,(⟨kc j P.1,oH j P.1 c P.2⟩:aG))] (λ_=>v) x) (id:=d) (p:=[]) (t:=⟨kc j P.1,oH j P.1 c P.2⟩) (τ':=kc j P.1) (loc:=bo) (cs:=O d)
    (by rw[zh,di,aw bn]) (akx.2 ⟨bn,bn,by unfold fk;split<;>rfl⟩)
   rw[XO j P.1 _ I c] at this;exact this
  have b:bH id d=bp:=by
   cases b:bH id d with
   |false=>rfl
   |true=>exact absurd (fA b).symm e
  have y:(ak.ref d []).fx [id]=bp:=(by simp[akh,bS,eX,b]);rw[Lu y] at k;exact k
 ·rw[f];exact .dead _
 rw[f];rw[Lu J] at k;exact k
end
end
section
section
variable {E:fF} {C:e4} {ic:gV}
def y8.store (g:y8 p c) {w:bC} {b o:X} {v:Value} (k:v.cells=#[v]) (h:v.oneCell'=bq) (e:iW w b o (o+1)):(storeVar c ⟨b,o,bo⟩ v).run p w=.ok () (w.setCells b o [v]):=by obtain⟨n,x,m,ay,l,q,r,s,t⟩:=g;have j:=run_storeCells_cells (P:=p) b o [v] 0 w (λd a=>by simpa using(e (o+d) aa (by simp at a;omega)).1) (λd a=>by simpa using(e (o+d) aa (by simp at a;omega)).2) (λu f=>by rw[gp] at f;subst f;exact h);have i:(akT c).run p w=.ok 1 w:=(by simp[akT,akA,ay,l]);simp only[storeVar,k,bW,i,b1];simpa using j
def Lx (a:h.guard=bo) (b:X->bv bA):amY h b=bq:=by unfold amY;rw[a]
end
end
section
def HD (ic:gV) (q:bT bR) (c:aQ):bv aQ:=
 match q.toList with
 |[d,e,f]=>match d.guard,e.guard,f.guard with
  |none,bo,bo=>match d.op,d.dst,e.op,e.dst,f.op,f.dst with
   |.makeFunc (.func k) p j,Y b,.alloc i,Y a,.store l (.tmp m) (.tmp o),bo=>match aq ic.tt i with
    |some (.fn _ _)=>bif (bH i l&&(bH a m&&(bH b o&&!(bH a b))))&&(p.isEmpty&&(gA ic.n ic.pin a&&gA ic.n ic.pin b)) then
     Y ⟨(a,.hG (.eA k (j.toList.map (aV c.g))))::(b,.eA k (j.toList.map (aV c.g)))::c.g,c.h⟩ else bo
    |_=>bo
   |_,_,_,_,_,_=>bo
  |_,_,_=>bo
 |_=>bo
section
variable {E:fF} {C:e4} {ic:gV}
theorem J.zF (am:ic.ae E C) {N:bT bR} {id:X} {ap:aQ} (f:HD ic N i=Y ap) (ex:y .normal ap):J E C (.region id N bp) i y:=by
 have an:=λa3=>gA.ok am (d:=a3);have fr:=am.1;unfold HD at f;split at f
 case h_2=>cases f
 rename_i r s t hw;split at f
 case h_2=>cases f
 rename_i dg dl ds;split at f
 case h_2=>cases f
 rename_i a Q q m k l a4 bl cs fT cv i1 c1 i2 c2;split at f
 case h_2=>cases f
 rename_i i0 kd A;cases hcond:(bH k a4&&(bH l bl&&(bH m cs&&!(bH l m))))&&(Q.isEmpty&&(gA ic.n ic.pin l&&gA ic.n ic.pin m)) with
 |false=>grind
 |true=>
 rw[hcond] at f;simp only[bG,eZ] at f;subst f;simp only[bk] at hcond;obtain⟨⟨bs,bx,ce,gi⟩,gl,ci,co⟩:=hcond;obtain rfl:=fA bs;obtain rfl:=fA bx;obtain rfl:=fA ce;have hv:¬l=m:=λgo=>(by grind);have U:=an _ ci;have ad:=an _ co;rw[fr] at A;obtain⟨ft,i3,i8,kg,f6,f7,_,f8,f9⟩:=E.ok k _ A;have A:y8 E.P k:=⟨ft,.nilFunc,_,f6,f7,f8,bn,f9,bn⟩;have jp:alq.cells.size=1:=rfl;have el:Q=#[]:=(by grind);subst el;obtain rfl:N=#[r,s,t]:=(by grind);rintro e w ⟨G,O,I,K⟩ d6;have gc:(#[r,s,t]:bT bR)[0]?=Y r:=rfl;have ge:(#[r,s,t]:bT bR)[1]?=Y s:=rfl;have gf:(#[r,s,t]:bT bR)[2]?=Y t:=rfl;have f3:(bN e.eval r).run E.P w=.ok (.value (.func (.func a) #[] (q.map e.eval))) w:=(by simp[bN,fT,Instr.makeFunc]);have io:q.toList.length=(q.map e.eval).size:=ac;have fs:∀(x:X) (z:Value),(q.map e.eval)[x]?=Y z->∃F,q.toList[x]?=Y F/\z=e.eval F:=λx z hs=>(by grind);generalize q.map e.eval=c at*;generalize L:e.put (Y m) (.func (.func a) #[] c)=u;have hi:m<e.tmps.size:=(by rw[K.n];exact ad.1);have gt:l<e.tmps.size:=(by rw[K.n];exact U.1);have fn:u.tmps=e.tmps.setIfInBounds m (.func (.func a) #[] c):=(by rw[<-L];rfl);have d7:u.defers=e.defers:=(by rw[<-L];rfl);have f4:(bN u.eval s).run E.P w=.ok (.value (.pointer (Y ⟨w.heap.size,0,bo⟩))) (w.alloc (.cells alq.cells k)):=(by simp_all [bN,Instr.alloc,akl,akA,newVar,akN]);generalize M:u.put (Y l) (.pointer (Y ⟨w.heap.size,0,bo⟩))=p;have fp:p.tmps=u.tmps.setIfInBounds l (.pointer (Y ⟨w.heap.size,0,bo⟩)):=(by rw[<-M];rfl);have d8:p.defers=u.defers:=(by rw[<-M];rfl);have d5:p.tmps.getD l bV=.pointer (Y ⟨w.heap.size,0,bo⟩):=(by simp_all);have d9:p.tmps.getD m bV=.func (.func a) #[] c:=(by simp_all);have hc:((w.alloc (.cells alq.cells k)).cell? ⟨w.heap.size,0,bo⟩).isSome=bq:=(by simp_all);have fl:(w.alloc (.cells alq.cells k)).heap.size=w.heap.size+1:=(by simp_all);have ek:iW (w.alloc (.cells alq.cells k)) w.heap.size 0 (0+1):=anR aa;have D:hz w (w.alloc (.cells alq.cells k)):=akX w _;generalize is:w.alloc (.cells alq.cells k)=j at*;have f5:(bN p.eval t).run E.P j=.ok .skip (j.setCells w.heap.size 0 [.func (.func a) #[] c]):=(by have ib:=A.store (w:=j) (b:=w.heap.size) (o:=0) (v:=.func (.func a) #[] c) rfl rfl ek;have ao:p.eval (.tmp l)=.pointer (Y ⟨w.heap.size,0,bo⟩):=d5;have gs:p.eval (.tmp m)=.func (.func a) #[] c:=d9;simp_all [bN,Instr.storeAt,alA]);have fz:∀H:b5->Act->bC->Prop,H .normal p (j.setCells w.heap.size 0 [.func (.func a) #[] c])->wpOps E.P #[r,s,t] H [0,1,2] e w:=(by intro H d2;simp only[wpOps,gc,ge,gf];rw[aw (Lx dg _)];refine .inl ?_;unfold ake;rw[f3,aoO,cv,L,aw (Lx dl _)];refine .inl ?_;rw[f4,aoO,c1,M,aw (Lx ds _)];refine .inl ?_;rw[f5,Oper.upon_skip,c2];exact d2);refine wp_region (fz _ ?_);have eq:(j.setCells w.heap.size 0 [.func (.func a) #[] c]).cell? ⟨w.heap.size,0,bo⟩=Y (.func (.func a) #[] c):=
  ami w.heap.size [.func (.func a) #[] c] 0 j (λix hr=>by
   grind) 0 ac
 have em:hz w (j.setCells w.heap.size 0 [.func (.func a) #[] c]):=(by obtain⟨f0,f1,f2⟩:=pL w.heap.size [.func (.func a) #[] c] 0 j;exact⟨f0.trans D.os,f1.trans D.tape,f2.trans D.output,by grind [uc],λb d4=>(yM _ _ _ _ _ aa).trans (D.heap b d4)⟩);have ii:(j.setCells w.heap.size 0 [.func (.func a) #[] c]).heap.size=w.heap.size+1:=(by rw[uc,fl]);generalize j.setCells w.heap.size 0 [.func (.func a) #[] c]=a0 at*;have T:cK C i e.tmps a0 (λb=>G b\/b=w.heap.size) O I:=by
  have:=K.ext (I':=λb=>G b\/b=w.heap.size) (rtn:=O) (fpn:=I) em (λ_ d0=>.inl d0) (by
   grind) (new:=[]) .nil
  exact this
 have V:cP (be (λb=>G b\/b=w.heap.size) C.B) a0 i.h O I (.eA a (q.toList.map (aV i.g))) (.func (.func a) #[] c):=(by refine .eA (by grind) (λx av z R d1=>?_);obtain⟨F,ay,rfl⟩:=fs x z d1;rw[jQ,ay] at R;cases R;exact T.aV F);have d3:=(T.put ad V);have S:=d3.put U (av:=.hG (.eA a (q.toList.map (aV i.g)))) (v:=.pointer (Y ⟨w.heap.size,0,bo⟩)) (.hG (.inr bn) eq bn V);rw[<-fn,<-fp] at S;exact⟨_,ex,⟨_,_,_,S⟩,d8.trans (d7.trans d6)⟩
end
end
section
inductive GR where
 |none
 |x (l:aj5) (BP:nH)
 |wD (l:aj5) (BP:nH)
inductive GS where
 |r
 |x (id:X) (BP:nH)
 |wD (id:X) (BP:nH)
inductive mx where
 |leaf
 |one (a:mx)
 |two (j:GR) (a b:mx)
 |loop (BP:nH) (m:GS) (a:mx)
 |keep (l:aj5) (a:mx)
 |qB (F:aj5) (a:mx)
 |fp (id:X) (p:bm a6) (a:mx)
 |draw (L:bm lU)
 |zF
def E2:bm lU->X->aj5
 |[],_=>[]
 |r::b,a=>bif bH r.i a then r.iS else E2 b a
def Fx:bm lU->X->aj5
 |[],_=>[]
 |r::b,a=>bif bH r.i a then r.h9 else Fx b a
def MW {A:Type} (id:X) (b:b5->aQ->bv A):b5->aQ->bv A
 |.exit c,a=>match bH c id with
  |true=>b .normal a
  |false=>b (.exit c) a
 |e,a=>b e a
def Yv {a:Type} (c:aQ->bv a):b5->aQ->bv a
 |.normal,b=>c b
 |_,_=>bo
def Yw {b A:Type} (d:aQ->bv b) (c:b5->aQ->bv A):b5->aQ->bv (b⊕A)
 |.normal,a=>(d a).map .inl
 |e,a=>(c e a).map .inr
def BM {A:Type} (c:aQ->bv A) (b:b5->aQ->bv A):b5->aQ->bv A
 |.normal,a=>c a
 |e,a=>b e a
def Zi {b A:Type} (d:aQ->bv b) (c:b5->aQ->bv A):b5->aQ->bv (b⊕A)
 |.normal,a=>(d a).map .inl
 |e,a=>(c e a).map .inr
def PC {b c:Type} (e:aQ->bv b) (id:X) (f:aQ->bv c):b5->aQ->bv (b⊕c)
 |.normal,a=>(e a).map .inl
 |.exit d,a=>match bH d id with
  |true=>(f a).map .inr
  |false=>bo
 |_,_=>bo
def PD {f g A:Type} (h:aQ->bv f) (id:X) (i:aQ->bv g) (c:b5->aQ->bv A):b5->aQ->bv (f⊕(g⊕A))
 |.normal,a=>(h a).map .inl
 |.exit d,a=>match bH d id with
  |true=>(i a).map λb=>.inr (.inl b)
  |false=>(c (.exit d) a).map λb=>.inr (.inr b)
 |e,a=>(c e a).map λb=>.inr (.inr b)
def hR:gV->mx->cq->aQ->(A:Type)->(b5->aQ->bv A)->bv A
 |ic,.leaf,d,a,_,b=>match d with
  |.skip=>b .normal a
  |.exit id=>b (.exit id) a
  |.ret=>b .ret a
  |.region _ l bp=>la ic l (bJ l.size) a (b .normal)
  |_=>bo
 |ic,.one e,d,a,A,b=>match d with
  |.block id j=>hR ic e j a A (MW id b)
  |_=>bo
 |ic,.two w e q,d,a,A,b=>match d with
  |.seq j p=>match w with
   |.none=>hR ic e j a A (BM (λf=>hR ic q p f A b) b)
   |.x k c=>match tx a.g k with
    |some i=>(hR {ic with pin:=k++ic.pin,kg:=i++ic.kg} e j a c.den (Yv (proj c))).bind λm=>hR ic q p (vu {ic with pin:=k++ic.pin,kg:=i++ic.kg} c m) A b
    |none=>bo
   |.wD k c=>match tx a.g k with
    |some i=>(hR {ic with pin:=k++ic.pin,kg:=i++ic.kg} e j a (c.den⊕A) (Yw (proj c) b)).bind λ
     |.inl m=>hR ic q p (vu {ic with pin:=k++ic.pin,kg:=i++ic.kg} c m) A b
     |.inr i=>Y i
    |none=>bo
  |.cond t j p=>match aV a.g t with
   |.val .bool z=>match z with
    |true=>hR ic e j a A b
    |false=>hR ic q p a A b
   |_=>bo
  |_=>bo
 |ic,.loop c y e,d,a,A,b=>match d with
  |.loop j=>(proj c a).bind λu=>match y with
   |.r=>(loop (λf=>hR ic e j (vu ic c f) (c.den⊕A) (Zi (proj c) b)) u).bind Y
   |.x id n=>(loop (λf=>hR ic e j (vu ic c f) (c.den⊕n.den) (PC (proj c) id (proj n))) u).bind λm=>b (.exit id) (vu ic n m)
   |.wD id n=>(loop (λf=>hR ic e j (vu ic c f) (c.den⊕(n.den⊕A)) (PD (proj c) id (proj n) b)) u).bind λ
    |.inl m=>b (.exit id) (vu ic n m)
    |.inr i=>Y i
  |_=>bo
 |ic,.draw o,d,a,_,b=>match d with
  |.region _ l bq=>bif uU l (E2 o) (Fx o) o then tw ic l (E2 o) (Fx o) (ld o) a (b .normal) else bo
  |_=>bo
 |ic,.zF,d,a,_,b=>match d with
  |.region _ l bp=>match HD ic l a with
   |some f=>b .normal f
   |none=>bo
  |_=>bo
 |ic,.qB v e,d,a,A,b=>bif nP a.h v then hR ic e d (ts v a) A b else bo
 |ic,.fp id s e,d,a,A,b=>match aq a.h id,s with
  |some t,f::s=>if h:oI (f::s) t.1=bq then hR ic e d (IT id (f::s) t h a) A b else bo
  |_,_=>bo
 |ic,.keep k e,d,a,A,b=>match tx a.g k with
  |some i=>hR {ic with pin:=k++ic.pin,kg:=i++ic.kg} e d a A b
  |none=>bo
section
variable {E:fF} {C:e4} {ic:gV} {A:Type}
theorem J.post (s:pX C S) {e:cq} (k:J E C e i (λf c=>y f c\/∃(d a:aQ),y f d/\d=⟨S++a.g,a.h⟩/\pd a.g c/\pe a.h c/\mN a.g a.h=bq)):J E C e i y:=
 λj t q r=>wp_mono (k j t q r) (λ_ _ _ ⟨c,b,o,p⟩=>by
  rcases b with b|⟨d,a,b,rfl,l,m,n⟩
  ·grind
  exact⟨_,b,(o.zI l m n).kg s,p⟩)
theorem mh:∀{am:mx} {C:e4} {ic:gV} {m:cq} {j:aQ} {A:Type} {k:b5->aQ->bv A} {r:A} {l:b5->aQ->Prop},ic.ae E C->hR ic am m j A k=Y r->(∀e i,k e i=Y r->l e i)->J E C m j l
 |.leaf,C,ic,m,j,A,k,r,l,b,a,d=>by
  simp only[hR] at a;split at a
  ·grind [J.skip]
  ·grind [J.exit]
  ·grind [J.ret]
  ·grind [J.region,Yf]
  grind
 |.one q,C,ic,m,j,A,k,r,l,b,a,d=>by
  simp only[hR] at a;split at a
  ·refine J.block (mh b a ?_);intro e i c;cases e with
   |exit M=>
    grind [HB,MW]
   |_=>exact d _ _ c
  grind
 |.two M q cv,C,ic,m,j,A,k,r,l,b,a,d=>by
  simp only[hR] at a;split at a
  ·rename_i x cs;refine J.seq ?_;split at a
   ·refine mh b a ?_;intro e i c;cases e with
    |normal=>exact mh b c d
    |_=>exact d _ _ c
   ·rename_i D F;split at a
    case h_2=>cases a
    rename_i Q L;obtain⟨n,B,a⟩:=eV.1 a;refine J.keep b.2.2.2.2 L (λS s t o u v=>J.post o (mh (ic:={ic with pin:=D++ic.pin,kg:=Q++ic.kg}) ⟨b.1,b.2.1.trans s.symm,by rw[t,<-b.2.2.1],⟨b.2.2.2.1.1,u _ b.2.2.2.1.2.1,b.2.2.2.1.2.2.1,v b.2.2.2.1.2.2.2.1,b.2.2.2.1.2.2.2.2⟩,o⟩ B ?_));intro e i c;cases e with
    |normal=>exact .inr ⟨_,_,mh b a d,bn,tW c⟩
    |_=>cases c
   rename_i D F;split at a
   case h_2=>cases a
   rename_i Q L;obtain⟨n,B,a⟩:=eV.1 a;refine J.keep b.2.2.2.2 L (λS s t o u v=>J.post o (mh (ic:={ic with pin:=D++ic.pin,kg:=Q++ic.kg}) ⟨b.1,b.2.1.trans s.symm,by rw[t,<-b.2.2.1],⟨b.2.2.2.1.1,u _ b.2.2.2.1.2.1,b.2.2.2.1.2.2.1,v b.2.2.2.1.2.2.2.1,b.2.2.2.1.2.2.2.2⟩,o⟩ B ?_));intro e i c;cases e with
   |normal=>
    obtain⟨bx,g,f⟩:=fG.1 c;cases f;exact .inr ⟨_,_,mh b a d,bn,tW g⟩
   |_=>
    obtain⟨bx,g,f⟩:=fG.1 c;cases f;cases a;exact .inl (d _ _ g)
  ·rename_i ci x cs;split at a
   ·rename_i c2 a3;refine J.cond a3 (λe=>?_) (λe=>?_)
    ·subst e;exact mh b a d
    subst e;exact mh b a d
   grind
  grind
 |.loop F a4 q,C,ic,m,j,A,k,r,l,b,a,d=>by
  simp only[hR] at a;split at a
  case h_2=>cases a
  rename_i x;obtain⟨c1,ap,a⟩:=eV.1 a;obtain⟨N,O,P⟩:=tW ap;refine J.post b.2.2.2.2 ?_;cases a4 with
  |r=>
   refine J.loop (k8 F) a N O P ?_;intro i T y z;refine J.kg b.2.2.2.2 (mh b y ?_);intro e U c;cases e with
   |normal=>
    obtain⟨n,g,f⟩:=fG.1 c;grind [tW]
   |_=>
    obtain⟨n,g,f⟩:=fG.1 c;cases f;cases z;exact⟨(λa=>by cases a),.inl (d _ _ g)⟩
  |x id co=>
   refine J.loop (k8 F) a N O P ?_;intro i T y z;refine J.kg b.2.2.2.2 (mh b y ?_);intro e U c;cases e with
   |normal=>
    obtain⟨n,g,f⟩:=fG.1 c;grind [tW]
   |exit M=>
    simp only[PC] at c;split at c
    ·rename_i K;obtain rfl:=fA K;obtain⟨n,g,f⟩:=fG.1 c;cases f;exact⟨(λa=>by cases a),.inr ⟨_,_,d _ _ z,bn,tW g⟩⟩
    grind
   |_=>cases c
  |wD id co=>
   refine J.loop (k8 F) a N O P ?_;intro i T y z;refine J.kg b.2.2.2.2 (mh b y ?_);intro e U c;cases e with
   |normal=>
    obtain⟨n,g,f⟩:=fG.1 c;grind [tW]
   |exit M=>
    simp only[PD] at c;split at c
    ·rename_i K;obtain rfl:=fA K;obtain⟨n,g,f⟩:=fG.1 c;cases f;exact⟨(λa=>by cases a),.inr ⟨_,_,d _ _ z,bn,tW g⟩⟩
    grind [aoM]
   |_=>
    obtain⟨n,g,f⟩:=fG.1 c;grind
 |.draw G,C,ic,m,j,A,k,r,l,b,a,d=>by
  simp only[hR] at a;split at a
  case h_2=>cases a
  rename_i id bl;cases w:uU bl (E2 G) (Fx G) G with
  |false=>grind
  |true=>
  rw[w] at a;exact J.draw E.mix b w a (λi c=>d _ i c)
 |.zF,C,ic,m,j,A,k,r,l,b,a,d=>by simp only[hR] at a;grind [J.zF]
 |.qB V q,C,ic,m,j,A,k,r,l,b,a,d=>by
  simp only[hR] at a;cases w:nP j.h V with
  |false=>grind
  |true=>
  rw[w] at a;intro H R p I;obtain⟨ad,ce,an,p⟩:=p;exact mh b a d H R (p.freeze (nP.ok w)) I
 |.fp id bs q,C,ic,m,j,A,k,r,l,b,a,d=>by
  simp only[hR] at a;split at a
  case h_2=>cases a
  rename_i ci i bs a0;split at a
  case isFalse=>cases a
  rename_i av;intro H R p I;obtain⟨ad,ce,an,p⟩:=p;exact mh b a d H R (p.XH ac a0 av) I
 |.keep D q,C,ic,m,j,A,k,r,l,b,a,d=>by
  simp only[hR] at a;split at a
  case h_2=>cases a
  rename_i n B;refine J.keep b.2.2.2.2 B ?_;intro S s t o u v;exact mh (ic:={ic with pin:=D++ic.pin,kg:=n++ic.kg}) ⟨b.1,b.2.1.trans s.symm,by rw[t,<-b.2.2.1],⟨b.2.2.2.1.1,u _ b.2.2.2.1.2.1,b.2.2.2.1.2.2.1,v b.2.2.2.1.2.2.2.1,b.2.2.2.1.2.2.2.2⟩,o⟩ a d
end
end
end Go.jy
end
