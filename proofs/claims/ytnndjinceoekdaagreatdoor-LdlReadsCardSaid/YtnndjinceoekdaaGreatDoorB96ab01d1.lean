/-
  Parts of the proof: Fw38, Fw22, Fw23, Fw26, Fw27, Fw28, Fw34, Fw35, Fw37, Fw42, Fw45, Fw24, Fw29, Fw31, Fw32, Fw33, Fw48, Fw39, Fw49, Fw30: the framework (Fw), pure forms (Dn), plain laws (Pl, Th), calls of functions (Ok).
-/
import Derived.Laws.StructEq
import Derived.Test.YtnndjinceoekdaaGreatDoorBb994f11c

set_option linter.all false
set_option maxHeartbeats 1000000
open _root_ renaming Nat->X,List->bn,Array->bU,Option->bw,rfl->bo,False->b7,and_true->ca,Unit->bt,Bool->bA,cond_true->bH,Int->Z,if_true->cg,cond_false->bR,dif_pos->ak7,congrArg->b4,true_and->alm,of_decide_eq_true->alz,decide_eq_true->aj8
open Go renaming TypeId->bG,Oper->bS,Operand->bP,Exit->b6,World->bD,Program->b1,execOp->bO,resolve->akC,ResultVar->aj4,undef->bW,IntKind->cr,Field->akl,sizeOf->akK,zeroValue->akg,typeInfo->akr,run_underlying->b8,newRow->akD,builtin->akU,MapEntry->cl,asIntOf->ak4,binOp->aka,eqGuard->akS,getD_set_ne->anC
open Bool renaming true->bp,false->br,true_and->alZ,and_true->ann,false_and->aor
open Option renaming some->Y,none->bq,isSome_none->ane,isSome_some->amo,bind->bC,bind_eq_some_iff->ala,map_eq_some_iff->aou
open Option.some renaming inj->aln,injEq->alX
open Go.jt.c6 renaming refl->cp,of_heap->ano
open Go.jt.aX renaming here->alv,gq->ako
open Go.jt renaming kill->akh,run_getObj_map->alx
open Go.Sem renaming run_bind->bY,run_pure->ct
open Go.Result renaming andThen_ok->b2,ok->aot
open Go.Oper renaming wp->aj9,upon_value->aow
open List renaming mem_flatten->alk,mem_of_getElem?->akf,flatten_cons->ak9,all_nil->anm,all_eq_true->ak1,replicate->bJ,any_eq_false->anp,map_congr_left->akt,map_id'->anq,length->cA,mem_singleton->cB,drop_drop->alL,range->bL,length_append->akE,length_take->aki,length_drop->anu,map_toArray->amr,getElem?_take->amh,getElem_mem->b5,getElem?_eq_getElem->b0,drop_eq_getElem_cons->alO,getElem?_eq_some_iff->ak2,getElem?_inj->amp,mem_append_left->anx,append_eq_nil_iff->am8,filter_filter->amz,filter_eq_self->alp,length_eq_zero_iff->anE
open Pure renaming pure->ak5
open Array renaming mapM_eq_mapM_toList->anb,replicate->anl,getD_eq_getD_getElem?->ank,map->aml,mem_append_right->akF
open Go.Value.slice renaming injEq->aj3
open Nat renaming sub_zero->alY,beq->bI,eq_of_beq_eq_true->akJ,blt->cf,ble->b3,mul_one->alw,beq_refl->alT,lor->anA,testBit_or->aov,testBit_two_pow->anB
open List.Perm renaming append_left->amx
open Go.jt.al renaming ids->bT,oC->akV,fc->akc
open BitVec renaming ofInt->ch
open Int renaming toNat_of_nonneg->aoq
open Go.World renaming cell?->ak6,frozen?_setCells->anj,cell?_setCells_in->alW,cell?_setCells_out->amv
open Go.jt.a9 renaming size->anr
open Go.jt.ai renaming size->akm
open Go.jt.eX renaming eval->akM
open Go.jt.hl renaming alloc->akN
open Go.Instr renaming box->amk,mapEntry->anv,mapUpdate->akL,keyThatStays->alr,sameBits->anf,entryStore->aos,sureAddr->alo
open Go.jt.fd renaming alloc->ans
open Go.jt.iE renaming alloc->ant
open Go.jt.aT renaming pure->akW
open Go.Value renaming map->als,int->akb,nilFunc->alb
open Go.MapEntry renaming mk->ame
open Go.Result.ok renaming injEq->anw
open Go.Op renaming equalIn->ak3,equal->alM,maxDepth->alN,eqFields->amy,operands->bV
open Go.jt.Yields renaming wp->al0
open Go.Addr renaming add_lit->akR
open Go.Addr.mk renaming injEq->akk
open Go.jt.h7 renaming op->aly
open Go.Call renaming operands->akx
open Go.Region renaming binds->anz,ready->anD,wanted->amw
noncomputable section
namespace Go.jt
variable{a m:X}{b:Type}{c r:bG}{d t:al}{e:bn (X×aK)}{f w:ajZ}{g:bn (X×bn aZ)}{h:bS}{i:aO}{j:bn aZ}{k Q:ai}{l:bn (X×ai)}{n N:bP}{o:b6->Act->bD->Prop}{p:b1}{s:bU (X×bP)}{u:aO->Prop}{v:bD}{x:X->ajT}{y:X->ajZ}{z:b6->aO->Prop}{O:X->Prop}{P:aK}{R:ajT}{S:Value}{T:bn (X×al)}{U:dh->X->Prop}{V:bP->al}
section
def tO:bn al->ajW->bw (X×bn aZ)
 |.ref id (c::b)::_,bp::_=>Y (id,c::b)
 |_::as,_::a=>tO as a
 |_,_=>bq
def qm (id:X) (a:al):al:=bif a.fc [id] then .dead else a
def mN (id:X):bn al->ajW->bn al
 |.ref _ (_::_)::as,bp::_=>.ref id []::as.map (qm id)
 |a::as,_::b=>qm id a::mN id as b
 |as,_=>as.map (qm id)
def k0 {a:Type} (c:X->a) (d:X) (e:a):X->a:=λb=>if b=d then e else c b
theorem nT {d:X->b} {c:b}:k0 d a c a=c:=by simp[k0]
theorem lw {c:X->b} {e:b} (d:a≠m):k0 c m e a=c a:=by simp[k0,d]
section
variable {E:fk} {C:eW} {st:aO} {A:ajR} {w w':bD} {I I':X->Prop} {rt:X->ajT} {fp:X->ajZ}
theorem tj {id:X} (a:X):aq ((id,P)::del [id] e) a=if id=a then Y P else aq e a:=by
 rw[de];split
 ·rfl
 rename_i b;rw[m7,aw (by grind)]
theorem cM.split (e:cM C st A w I rt fp) {id:X} (n:aq st.h id=Y P) {j:k.den} {z:ajZ} (E:aT (bb I C.B) w k R j f) (v:(fp id).Perm (f++z)):cM C ⟨[],(id,⟨k,j⟩)::del [id] st.h⟩ A w I (k0 rt id R) (k0 fp id f):=by
 obtain⟨_,F,G⟩:=e.tree id P n;have r:∀c∈f,c∈fp id:=λc d=>v.mem_iff.2 (by grind);have l:∀a b,aq ((id,(⟨k,j⟩:aK))::del [id] st.h) a=Y b->(a=id/\b=⟨k,j⟩)\/(a≠id/\aq st.h a=Y b):=λa b q=>(by grind [aln,tj]);refine{e with tree:=?_,dis:=?_,tmp:=λa=>.dead _}
 ·intro a b q;rcases l a b q with⟨rfl,rfl⟩|⟨g,i⟩
  ·grind [List.nodup_append,nT]
  rw[lw g,lw g];exact e.tree a b i
 intro x y b D t u m c d;rcases l x b t with⟨rfl,rfl⟩|⟨g,i⟩<;>rcases l y D u with⟨rfl,rfl⟩|⟨o,p⟩
 ·omega
 ·rw[nT] at d;rw[lw o];exact e.dis _ _ _ _ n p m c (r c d)
 ·rw[lw g] at d;rw[nT];exactλs=>e.dis _ _ _ _ i n m c d (r c s)
 rw[lw g] at d;rw[lw o];exact e.dis _ _ _ _ i p m c d
def cQ.qm (l:cM C st A w I rt fp) {id:X} {q:aK} {i:ajT} {j:ajZ} {a:al} {f:Value} (k:cQ (bb I C.B) w st.h rt fp a f):cQ (bb I C.B) w ((id,q)::del [id] st.h) (k0 rt id i) (k0 fp id j) (qm id a) f:=by
 unfold jt.qm;cases o:a.fc [id] with
 |true=>exact .dead _
 |false=>
  refine k.tu (λr g n=>⟨n,cp _ _⟩) (λd m p e=>?_);have c:d≠id:=λb=>Lr o d m (by simp[b]);refine⟨?_,lw c,lw c,(l.tree d p e).1,λg _=>cp _ _⟩;rw[tj,aw (λb=>c b.symm)];exact e
theorem UG (p:cM C st A w I rt fp) {id:X} (F:aq st.h id=Y P) {y:k.den} {u:Loc} {f:ajZ} {r:aZ} (D:aX w P.1 bq (rt id) (r::j) k u R):∀{d:bn al} {c:ajW} {a:ajT},iq (cQ (bb I C.B) w st.h rt fp) d a->tO d c=Y (id,r::j)->iq (cQ (bb I C.B) w ((id,⟨k,y⟩)::del [id] st.h) (k0 rt id R) (k0 fp id f)) (mN id d c) a:=by
 have G:∀{d:bn al} {a:ajT},iq (cQ (bb I C.B) w st.h rt fp) d a->iq (cQ (bb I C.B) w ((id,⟨k,y⟩)::del [id] st.h) (k0 rt id R) (k0 fp id f)) (d.map (jt.qm id)) a:=by
  intro d
  induction d with
  |nil=>intro a b;cases a with|nil=>trivial|cons=>exact b.elim
  |cons e n o=>intro a b;cases a with|nil=>exact b.elim|cons H a=>exact⟨b.1.qm p,o b.2⟩
 intro d
 induction d with
 |nil=>intro c a _ b;cases c<;>cases b
 |cons e n o=>
  intro c a b i;cases a with
  |nil=>exact b.elim
  |cons H a=>
  cases c with
  |nil=>cases e<;>first|(cases i;done)|(rename_i m g;cases g<;>cases i)
  |cons l c=>
   by_cases z:∃m s g,e=.ref m (s::g)/\l=bp
   ·obtain⟨m,s,g,rfl,rfl⟩:=z;simp only[tO,eT,h8,hM] at i;obtain⟨rfl,rfl,rfl⟩:=i;have x:=b.1;cases x with|ref q E=>
    rw[F] at q;cases q;obtain⟨rfl,rfl,rfl⟩:=E.kR D;refine⟨.ref (t:=⟨_,y⟩) (loc:=bq) (by rw[tj,ax bo]) ?_,G b.2⟩;rw[nT];exact alv
   have ao:tO (e::n) (l::c)=tO n c:=by cases e<;>first|rfl|(rename_i m g;cases g<;>cases l<;>first|rfl|grind)
   have v:mN id (e::n) (l::c)=jt.qm id e::mN id n c:=by cases e<;>first|rfl|(rename_i m g;cases g<;>cases l<;>first|rfl|grind)
   rw[ao] at i;rw[v];exact⟨b.1.qm p,o b.2 i⟩
theorem ns.ac5 (J:cM C st A w I rt fp) {id:X} (z:aq st.h id=Y P) {x:k.den} (el:eK P.1 P.2 j k x) {av:Loc} (ci:aX w P.1 bq (rt id) j k av R):∃p u,aT (bb I C.B) w k R x p/\(fp id).Perm (p++u)/\∀{w':bD} {I':X->Prop} {s:ajZ} {K:bn (X×bn aZ)} {D:bn (X×aK)} {N:X->ajT} {E:X->ajZ} {O:k.den} {t:P.1.den},ns C ⟨[],(id,⟨k,x⟩)::del [id] st.h⟩ w w' I I' (k0 rt id R) (k0 fp id p) s K D N E->id∈s->aq D id=Y ⟨k,O⟩->(id,[])∈K->(∀m∈K,m.2=[])->e3 P.1 P.2 j k O t->∃dl d4,ns C st w w' I I' rt fp s ((id,j)::K) ((id,⟨P.1,t⟩)::D) dl d4/\∀l,l≠id->dl l=N l:=by
 obtain⟨f1,dg,f2⟩:=J.tree id P z;obtain⟨hs,f8,p,u,d5,d6,d7,G,ge,d8,d9⟩:=AO j (loc:=bq) f1 (λ_ _ b=>by cases b) dg (λ_ _ b=>by cases b) (J.notM z) el;obtain⟨_,rfl,rfl⟩:=ci.kR d5;refine⟨p,u,d6,G,λ{w' I' s K D N E O t} f bl V q eq co=>?_⟩;have hc:∀a∈p,a∈fp id:=λa c=>G.mem_iff.2 (by grind);have gl:=ji.1 (G.nodup_iff.1 dg);have M:∀a,(∃d∈s,∃e,aq ((id,(⟨k,x⟩:aK))::del [id] st.h) d=Y e/\a∈k0 fp id p d)->∃d∈s,∃e,aq st.h d=Y e/\a∈fp d/\(d=id->a∈p):=by
  rintro a ⟨d,o,e,g,c⟩;by_cases m:d=id
  ·grind [nT]
  rw[tj,aw (λd3=>m d3.symm)] at g;grind [lw]
 have am:∀a∈u,a<w.heap.size/\¬∃d∈s,∃e,aq ((id,(⟨k,x⟩:aK))::del [id] st.h) d=Y e/\a∈k0 fp id p d:=λa c=>by
  have L:a∈fp id:=G.mem_iff.2 (by grind);refine⟨(f2 a L).2.2.1,λb=>?_⟩;obtain⟨d,_,e,g,n,H⟩:=M a b;by_cases m:d=id
  ·grind
  exact J.dis d id e P g z m a n L
 have S:∀a∈u,w'.heap[a]?=w.heap[a]?:=λa c=>f.heap a (am a c).1 (λd o e g b=>(am a c).2 ⟨d,o,e,g,b⟩);have gf:∀F a,bb I C.B F a->c6 w w' a:=λF a U=>.of_heap (f.heap a (J.ib a (m8 U)) (λd o e g b=>by
  obtain⟨d,_,e,g,n,_⟩:=M a ⟨d,o,e,g,b⟩;exact J.notM g a n F U))
 obtain⟨_,an,hv,f0⟩:=f.tree id _ V;obtain⟨v,hi,_,cs,_⟩:=f.keep _ q ⟨k,x⟩ (by rw[tj,ax bo]);simp only[nT] at cs;rw[cs] at an;have d2:∀a,c6 w w' a->rY w w' av k.size a:=λa b=>⟨λr _=>(b.1 r).1,λr=>(b.1 r).2,λr=>by rw[(b.1 r).1],b.2⟩;obtain⟨f9,a1,ft,_,fT,_,cv,_,fz⟩:=d8 w' (bb I' C.B) R O (E id) t (λF a c=>by cases F;exact f.i a c;exact c.imp (f.i a) (λb=>b)) (by
   rintro a (⟨F,U⟩|c|⟨c1,gs⟩)
   ·grind
   ·exact d2 a (.of_heap (S a c))
   grind) an (λ_ _=>rfl)
  (λa c1 ex=>by
   have c:a∈u:=(by grind);exact(d7 a c1 ex).1.fV (.of_heap (S a c))) co
 obtain rfl:=fT bo (.inr bo);have Q:∀a∈a1,a∈E id\/a∈u:=λa c=>ha.1 (cv.mem_iff.1 c);have go:∀l e,aq D l=Y e->∀a∈E l,a∉u:=λl e q a c gt=>by
  rcases((f.tree l e q).2.2.2 a c).2.2 with b|b
  ·grind
  grind
 have ad:∀l v,aq ((id,(⟨P.1,t⟩:aK))::D) l=Y v->(l=id/\v=⟨P.1,t⟩)\/(l≠id/\aq D l=Y v):=λl v q=>(by rw[de] at q;grind);have ce:∀a,(w.heap.size<=a\/∃d∈s,∃e,aq ((id,(⟨k,x⟩:aK))::del [id] st.h) d=Y e/\a∈k0 fp id p d)->w.heap.size<=a\/∃d∈s,∃e,aq st.h d=Y e/\a∈fp d:=λa b=>b.imp (λb=>b) (λb=>by
  obtain⟨d,o,e,g,n,_⟩:=M a b;grind)
 refine⟨k0 N id (rt id),k0 E id a1,⟨f.size,f.os,f.tape,f.output,?_,f.evo,f.i,?_,?_,?_,?_,?_⟩,λl q=>lw q⟩
 ·intro a c gi;refine f.heap a c (λd o e g b=>?_);obtain⟨d,o,e,g,n,_⟩:=M a ⟨d,o,e,g,b⟩;grind
 ·intro a c;exact(f.i2 a c).imp (λb=>b) (λb=>⟨b.1,ce a b.2⟩)
 ·intro l v q;rcases ad l v q with⟨rfl,rfl⟩|⟨n,H⟩
  ·rw[nT,nT];refine⟨.inl bl,ft,?_,λa c=>?_⟩
   ·grind
   rcases Q a c with c|c
   ·obtain⟨ds,d0,d1⟩:=f0 a c;grind
   have L:a∈fp l:=G.mem_iff.2 (by grind);refine⟨λo=>?_,iT (am a c).1 f.size,.inr ⟨l,bl,P,z,L⟩⟩;rcases f.i2 a o with b|⟨_,b|b⟩
   ·grind
   ·grind
   grind
  rw[lw n,lw n];obtain⟨f3,ds,d0,d1⟩:=f.tree l v H;refine⟨f3.imp (λb=>b) (λb=>?_),ds,d0,λa c=>?_⟩
  ·have b:aq ((id,(⟨k,x⟩:aK))::del [id] st.h) l=bq:=b;rw[tj,aw (λm=>n m.symm)] at b;exact b
  obtain⟨v1,nh,ap⟩:=d1 a c;exact⟨v1,nh,ce a ap⟩
 ·intro d r f4 f5 o em T a c;rcases ad d f4 o with⟨rfl,rfl⟩|⟨n,H⟩<;>rcases ad r f5 em with⟨rfl,rfl⟩|⟨a3,a4⟩
  ·omega
  ·rw[nT] at c;rw[lw a3];rcases Q a c with c|c
   ·exact f.dis d r _ _ V a4 T a c
   grind
  ·rw[lw n] at c;rw[nT];intro b;rcases Q a b with b|b
   ·exact f.dis d r _ _ H V T a c b
   grind
  rw[lw n] at c;rw[lw a3];exact f.dis d r _ _ H a4 T a c
 ·intro m y e g;rcases fG.1 y with rfl|y
  ·rw[z] at g;cases g;exact⟨⟨P.1,t⟩,by rw[de,ax bo],bo,nT,⟨_,ci.ty⟩,fz⟩
  by_cases ao:m.1=id
  ·rw[ao,z] at g;cases g;refine⟨⟨P.1,t⟩,by rw[de,ax ao.symm],bo,by grind [nT],⟨P.1,by rw[eq m y];cases P.1<;>rfl⟩,λc2 _ _ _ q=>?_⟩;grind [E4]
  obtain⟨v1,nh,ap,v4,f6,Lt⟩:=f.keep m y e (by rw[tj,aw (λb=>ao b.symm)];omega);rw[lw ao] at v4 Lt;exact⟨v1,by rw[de,aw (λb=>ao b.symm)];exact nh,ap,by grind [lw],f6,Lt⟩
 intro m y e g c2 ic hw hr f7 gc bs fr fn bx fs;rcases fG.1 y with rfl|y
 ·rw[z] at g;cases g;refine⟨⟨P.1,t⟩,by rw[de,ax bo],vk bs co bx,λa0 ek=>?_⟩;obtain⟨ay,an⟩:=d9 c2 _ _ _ _ _ bs (by exact fr) bx fn fs a0 ek;rw[nT];exact⟨cv.mem_iff.2 (lD _ ay),.of_heap (S a0 ay)⟩
 grind [vj]
theorem eX.sub {v:bS} {t:bn al} {i S:bU _} (c2:v.op=.call {callee:=.value n,args:=i,argTypes:=S}) (d6:aU st.g n=.da m t) (bx:v.dst=Y a) (ce:C.ok a) (fr:∀(R:ajR) (w:bD),(callFunc m R).run E.P w=.ok (.enter m R) w) {b:bn hE} {e:bn aK} (bl:rX E m b e) (d1:pn 0 b=bq) (am:∀F,C.I0 F\/C.B F->F<C.w0.heap.size/\¬C.F0 F) (an:lA E C.I0 C.w0) {id:X} {j:aK} (s:aq st.h id=Y j) {A:aZ} {p:bn aZ} {D:k.den} (O:eK j.1 j.2 (A::p) k D) {J:ajW} (d2:tO (i.toList.map (aU st.g)++t) J=Y (id,A::p)) {c:bn al} (a3:c=mN id (i.toList.map (aU st.g)++t) J) (a1:oV ((id,⟨k,D⟩)::del [id] st.h) (gm c b) c b) (G:nD a ⟨[],(id,⟨k,D⟩)::del [id] st.h⟩ c b e=bp) (a0:id∈gm c b) (ap:id∈mG c b) {y':k.den} {z:j.1.den} (co:aq (kj c b++jb a (i5 e) 0 e) id=Y ⟨k,y'⟩) (d0:e3 j.1 j.2 (A::p) k y' z) (r:u ⟨(a,v8 a e)::akh (gm c b) ((id,A::p)::ye (mG c b)) st.g,((id,⟨j.1,z⟩)::(kj c b++jb a (i5 e) 0 e))++del (gm c b) st.h⟩):eX E C v st u:=by
 rintro d w ⟨I,rt,fp,l⟩ next el c1
 obtain⟨o,d5,ad⟩:∃o:ajR,d.eval n=.func (.func m) #[] o/\iq (cQ (bb I C.B) w st.h rt fp) t o.toList:=by
  have H:=l.aU n;rw[d6] at H;generalize fT:d.eval n=f5 at H;cases H with|da ft fs=>
  grind [zv]
 have a4:iq (cQ (bb I C.B) w st.h rt fp) (i.toList.map (aU st.g)++t) (i.toList.map d.eval++o.toList):=G4 (G5 (λn=>l.aU n) _) ad;obtain⟨d8,d9,f1⟩:=l.tree id j s;obtain⟨ek,em,_,_,K,_⟩:=EM (A::p) (loc:=bq) d8 (λ_ _ r=>by cases r) d9 (λ_ _ r=>by cases r) (l.notM s) O;obtain⟨U,f2,ay,d7,dg⟩:=ns.ac5 l s O K;have M:=l.split s ay d7;have N:=UG (y:=D) (f:=U) l s K a4 d2;rw[<-a3] at N;have bs:=M.call N bl a1 G (λ_ _=>by rw[d1];trivial) (M.glob am an);have ds:(bO d.eval v).run E.P w=.ok (.enter m (i.toList.map d.eval++o.toList).toArray) w:=(by have ao:i.map d.eval=(i.toList.map d.eval).toArray:=(by rw[<-Array.toList_map]);have T:(i.toList.map d.eval++o.toList).toArray=(i.toList.map d.eval).toArray++o:=ac;rw[T];simp only[bO,c2,akC,ao,bY,d5,Deferred.ofValue,ct,b2,invoke,Array.empty_append,Array.append_empty];grind);unfold aj9;rw[ds];show Calls E.P m _ w _;refine bs.mono ?_;rintro q w' ⟨I',f3,eq,cJ,rfl,d3,dl⟩;show next (d.put v.dst (qg cJ)) w'
 rw[bx];obtain⟨f4,ex,d4,fz⟩:=dg d3 a0 co (fe.2 ⟨id,ap,bo⟩) (λq ci=>by obtain⟨f0,_,rfl⟩:=fe.1 ci;rfl) d0;simp only[nD,cE,gU] at G;have cs:=jA.ok G.1.2;refine c1 _ _ _ r bo ⟨I',_,_,(l.eI d4).put ce (av:=v8 a e) (dl _ _ _ (λx Q=>?_))⟩;have V:=RU cs x Q;have L:=G.2 x Q;have cv:x.1≠id:=λq=>(by rw[q,tj,ax bo] at L;cases L);have fn:aq ((id,(⟨j.1,z⟩:aK))::(kj c b++jb a (i5 e) 0 e)) x.1=Y x.2:=(by rw[de,aw (λq=>cv q.symm)];exact V);grind [kV,e8]
end
end
section
def jS:X->bn hE->bn (X×al)
 |_,[]=>[]
 |k,.v b::a=>(k,.val b.1 b.2)::jS (k+1) a
 |k,.m _ _::a=>(k,.ref k [])::jS (k+1) a
 |k,.o _::a=>(k,.ref k [])::jS (k+1) a
 |k,.n::a=>(k,.dd (.slice bq 0 0))::jS (k+1) a
 |k,.w _ _ e d _::a=>(k,.view k [] e d)::jS (k+1) a
 |k,.s _ _::a=>jS (k+1) a
 |k,.c f g::a=>(k,.da f (g.map λb=>.val b.1 b.2))::jS (k+1) a
def ks:X->bn hE->bn (X×aK)
 |_,[]=>[]
 |k,.v _::a=>ks (k+1) a
 |k,.m b _::a=>(k,b)::ks (k+1) a
 |k,.o b::a=>(k,b)::ks (k+1) a
 |k,.w e d _ _ _::a=>(k,⟨.osl e,d⟩)::ks (k+1) a
 |k,.c _ _::a=>ks (k+1) a
 |k,.n::a=>ks (k+1) a
 |k,.s _ _::a=>ks (k+1) a
def hO:X->bn hE->ajZ
 |_,[]=>[]
 |k,.m _ _::a=>k::hO (k+1) a
 |k,.w _ _ _ _ _::a=>k::hO (k+1) a
 |k,_::a=>hO (k+1) a
def uy (a:eW):bw ee->Prop
 |none=>True
 |some (c,g,d)=>c∈a.pin/\(∀h∈d,h∈a.pin)/\∃b e f,a.vs c=.pointer (Y ⟨b,e,bq⟩)/\b<a.w0.heap.size/\¬a.F0 b/\a.w0.cell? ⟨b,e,bq⟩=Y (.func (.func g) #[] f)/\f.toList=d.map a.vs
def nS:bw ee->ajZ
 |none=>[]
 |some (a,_,b)=>a::b
def se (j:b1) (e:aO) (a:aK):aj4->ajZ->Prop
 |.tmp m,c=>match gt e.g m with
  |.val i n=>(⟨i,n⟩:aK)=a/\c=[]
  |.dd f=>iM a.1 f.cells.toList=Y a.2/\cV a.1 f.cells.toList=f/\c=[]
  |.ref id d=>c=[id]/\∃b,aq e.h id=Y b/\eK b.1 b.2 d a.1 a.2
  |_=>b7
 |.cell l k,c=>e9 j a.1 k/\match gt e.g l with
  |.ref id d=>c=[id]/\∃b i,aq e.h id=Y b/\fb b.1 d=Y (.optr i)/\eK b.1 b.2 (d++[.deref]) a.1 a.2
  |_=>b7
def uw (b:b1) (d:aO):bn aj4->bn aK->ajZ->Prop
 |[],[],a=>a=[]
 |r::f,e::g,a=>e.1.fP=bp/\∃i1 c,a=i1++c/\se b d e r i1/\uw b d f g c
 |_,_,_=>b7
def pI (a:aO):X->bn hE->Prop
 |_,[]=>True
 |k,.m c l::b=>(gt a.g k=.ref k []/\aq a.h k=Y ⟨c.1,l⟩/\c.1.fP=bp/\rT c.1=bp)/\pI a (k+1) b
 |k,.w i j e d f::b=>(gt a.g k=.view k [] e d/\aq a.h k=Y ⟨.osl i,f⟩/\(i.fP=bp/\e<d)/\f.length=j.length)/\pI a (k+1) b
 |k,_::b=>pI a (k+1) b
def LM (e:b1) (a:bn hE) (g:bn aj4) (f:bn aK) (b:b6) (d:aO):Prop:=
 (b=.normal\/b=.ret)/\∃c,uw e d g f c/\jA (hO 0 a++c)=bp/\pI d 0 a
section
variable {E:fk}
theorem Vy {h:X->Prop} {b:bn aK} (g:iq (y5 h O v) b R):cQ (bb h O) v e x y (.da a (b.map λc=>.val c.1 c.2)) (.func (.func a) #[] R.toArray):=by
 have q:=Me g;refine .da (by grind) (λf o j d i=>?_);have k:∀{b:bn aK} {R:ajT} {f:X} {c:aK} {j:Value},iq (y5 h O v) b R->b[f]?=Y c->R[f]?=Y j->y5 h O v c j:=by
  intro b
  induction b with
  |nil=>grind
  |cons s b n=>
   intro R f c j g d i;cases R with
   |nil=>grind
   |cons r R=>
    cases f with
    |zero=>simp only[qA,eT] at d i;subst d i;exact g.1
    |succ f=>exact n g.2 (by simpa using d) (by grind)
 rw[jI] at d;obtain⟨c,m,rfl⟩:=fl.1 d;obtain⟨p,rfl,l⟩:=k g m (by simpa using i);exact .val l
theorem Mv {q p:X->Prop} {w:bD}:∀{k:X} {d:bn hE} {D:ajT} {x:ez},mx (y3 q p w) d D x->∃(h:X->ajT) (e:X->ajZ),(∀id b,aq (ks k d) id=Y b->k<=id/\(∃u,x[id-k]?=Y u/\e id=u)/\aT (bb q p) w b.1 (h id) b.2 (e id))/\(∀a,gt (jS k d) (k+a)=.dead\/∃v,D[a]?=Y v/\cQ (bb q p) w (ks k d) h e (gt (jS k d) (k+a)) v)/\(∀a,a<k->gt (jS k d) a=.dead)
 |k,[],D,x,t=>⟨λ_=>[],λ_=>[],(λid b t=>by cases t),λa=>.inl bo,λa _=>rfl⟩
 |k,j::d,[],x,t=>t.elim
 |k,j::d,v::D,[],t=>t.elim
 |k,j::d,v::D,u::x,t=>by
  obtain⟨A,T⟩:=t;obtain⟨h,e,i1,H,Q⟩:=Mv (k:=k+1) T;have I:∀id b,aq (ks (k+1) d) id=Y b->k<=id/\(∃E,(u::x)[id-k]?=Y E/\e id=E)/\aT (bb q p) w b.1 (h id) b.2 (e id):=λid b P=>(by grind);have M:∀(b:aK) (r:ajT) (J:al),(∀(z:bn (X×aK)) (C:X->ajT) (F:X->ajZ),aq z k=Y b->C k=r->cQ (bb q p) w z C F J v)->aT (bb q p) w b.1 r b.2 u->ks k (j::d)=(k,b)::ks (k+1) d->jS k (j::d)=(k,J)::jS (k+1) d->_:=λb r J f l ao O=>by
   refine(⟨λG=>if G=k then r else h G,λG=>if G=k then u else e G,?_,?_,?_⟩:∃(h:X->ajT) (e:X->ajZ),(∀id b,aq (ks k (j::d)) id=Y b->k<=id/\(∃E,(u::x)[id-k]?=Y E/\e id=E)/\aT (bb q p) w b.1 (h id) b.2 (e id))/\(∀a,gt (jS k (j::d)) (k+a)=.dead\/∃i,(v::D)[a]?=Y i/\cQ (bb q p) w (ks k (j::d)) h e (gt (jS k (j::d)) (k+a)) i)/\(∀a,a<k->gt (jS k (j::d)) a=.dead))
   ·grind [de]
   ·intro a;rw[O,i4];cases a with
    |zero=>
     right;refine⟨v,bo,?_⟩;rw[ax aa];exact f _ _ _ (by rw[ao,de,ax bo]) (by grind)
    |succ a=>
     rw[aw aa,(aa:k+(a+1)=k+1+a)];refine(H a).imp id ?_;rintro⟨i,ay,g⟩;refine⟨i,by grind,?_⟩;refine g.tu (λm K U=>⟨U,cp w K⟩) (λid _ am P=>?_);obtain⟨a4,_,bl⟩:=i1 id am P;have an:¬id=k:=aa;have ap:¬k=id:=aa;simp_all [de,aw,cp]
   intro a y;rw[O,i4,aw aa];grind
  cases j with
  |v b=>
   obtain⟨rfl,r,f,l⟩:=A;refine⟨h,e,I,λa=>?_,λa y=>?_⟩
   ·show gt ((k,_)::_) _=_\/_;rw[i4];cases a with
    |zero=>
     right;refine⟨v,bo,?_⟩;show cQ _ _ _ _ _ (gt ((k,_)::_) _) _;rw[i4,ax aa,f];exact .val l
    |succ a=>
     rw[aw aa,(aa:k+(a+1)=k+1+a)];refine(H a).imp id ?_;rintro⟨i,ay,g⟩;refine⟨i,by grind,?_⟩;show cQ _ _ _ _ _ (gt ((k,_)::_) _) _;rw[i4,aw aa];exact g
   show gt ((k,_)::_) _=_;rw[i4,aw aa];grind
  |n=>
   obtain⟨rfl,f⟩:=A;refine⟨h,e,I,λa=>?_,λa y=>?_⟩
   ·show gt ((k,_)::_) _=_\/_;rw[i4];cases a with
    |zero=>
     right;refine⟨v,bo,?_⟩;show cQ _ _ _ _ _ (gt ((k,_)::_) _) _;rw[i4,ax aa,f];exact .dd _
    |succ a=>
     rw[aw aa,(aa:k+(a+1)=k+1+a)];refine(H a).imp id ?_;rintro⟨i,ay,g⟩;refine⟨i,by grind,?_⟩;show cQ _ _ _ _ _ (gt ((k,_)::_) _) _;rw[i4,aw aa];exact g
   show gt ((k,_)::_) _=_;rw[i4,aw aa];grind
  |s av a1=>
   refine⟨h,e,I,λa=>?_,λa y=>Q a aa⟩;cases a with
   |zero=>exact .inl (Q k aa)
   |succ a=>
    have y:=H a;rw[(aa:k+1+a=k+(a+1))] at y;refine y.imp id ?_;rintro⟨i,ay,g⟩;exact⟨i,by grind,g⟩
  |c n bs=>
   obtain⟨rfl,bx,f,l⟩:=A;refine⟨h,e,I,λa=>?_,λa y=>?_⟩
   ·show gt ((k,_)::_) _=_\/_;rw[i4];cases a with
    |zero=>
     right;refine⟨v,bo,?_⟩;show cQ _ _ _ _ _ (gt ((k,_)::_) _) _;rw[i4,ax aa,f];exact Vy l
    |succ a=>
     rw[aw aa,(aa:k+(a+1)=k+1+a)];refine(H a).imp id ?_;rintro⟨i,ay,g⟩;refine⟨i,by grind,?_⟩;show cQ _ _ _ _ _ (gt ((k,_)::_) _) _;rw[i4,aw aa];exact g
   show gt ((k,_)::_) _=_;rw[i4,aw aa];grind
  |m b ce=>obtain⟨r,f,l⟩:=A;exact M b r (.ref k []) (λz C F ay g=>by subst f;exact .ref (loc:=bq) ay (by grind [alv])) l bo rfl
  |o b=>obtain⟨r,f,l⟩:=A;exact M b r (.ref k []) (λz C F ay g=>by subst f;exact .ref (loc:=bq) ay (by grind [alv])) l bo rfl
  |w S R B L ci=>
   obtain⟨K,o,N,f,⟨a3,V,ad⟩,l⟩:=A;refine M ⟨.osl S,R⟩ _ (.view k [] B L) (λz C F ay g=>?_) l bo rfl;have a0:cQ (bb q p) w z C F (.view k [] B L) (.slice (Y ⟨K,if N=B then o else o+B*S.size,bq⟩) (L-B) (N-B)):=.view (loc:=bq) (len:=R.length) ay (by grind [alv]) aa V ad;grind
theorem Zt {a:ez} (g:a.flatten.Nodup):(∀(c:X) b,a[c]?=Y b->b.Nodup)/\∀(c e:X) b d,a[c]?=Y b->a[e]?=Y d->c≠e->∀f∈b,f∉d:=by
 induction a with
 |nil=>grind
 |cons i a h=>
  simp only[lV,ji] at g;grind [List.getElem?_cons_zero,alX,alk,akf]
def BH (b:ajR):aj4->Sem Value
 |.tmp a=>ak5 (b.getD a bW)
 |.cell c a=>do loadVar a (<-asAddr (b.getD c bW))
def aes {f:Func} {e:bn aj4} (h:f.results=e.toArray) (c:ajR) (a:bD) (i:(e.mapM (BH c)).run p a=.ok R a):(results f c).run p a=.ok (qg R) a:=by
 unfold results;simp only[bY,h];rw[anb,Sem.run_map];have j:∀b:aj4->Sem Value,(∀d,b d=BH c d)->(e.mapM b).run p a=.ok R a:=λb g=>(by rw[show b=BH c from funext g];exact i);rw[j _ (λd=>by cases d<;>rfl)];simp only[b2,ct];congr 1
 match R with
 |[]=>rfl
 |[r]=>rfl
 |r::l::k=>simp[qg]
theorem se.rep {H:eW} {d:ajR} {C:X->ajZ} (q:cM H i d v O x C) (D:P.1.fP=bp) {c:aj4} (a:se p i P c f):∃o I,(BH d c).run p v=.ok o v/\Cu O v P o I/\(∃ap,(f.map C).flatten.Perm (I++ap))/\∀id∈f,∃P,aq i.h id=Y P:=by
 have K:∀(id:X) (g:aK) (l:bn aZ),aq i.h id=Y g->eK g.1 g.2 l P.1 P.2->∃u m k n,aX v g.1 bq (x id) l P.1 u m/\aT (bb O H.B) v P.1 m P.2 k/\pH v u m P.1.size/\(C id).Perm (k++n):=(by intro id g l e r;obtain⟨ay,G,a4⟩:=q.tree id _ e;obtain⟨u,m,k,n,w,z,F,J,_⟩:=EM l (τ':=P.1) (y:=P.2) ay (loc:=bq) (λ_ _ a=>by cases a) G (λ_ _ a=>by cases a) (q.notM e) r;grind);cases c with
 |tmp c=>
  have b:=q.tmp c;simp only[se] at a;split at a
  ·rename_i a0 bs j;rw[j] at b;obtain⟨rfl,rfl⟩:=a;generalize E:d.getD c bW=o at b;cases b with|val av=>
   exact⟨_,[],by show(ak5 (d.getD c bW):Sem Value).run p v=_;simp_all,⟨_,bo,av.fP D⟩,⟨[],ac⟩,ac⟩
  ·rename_i o j;rw[j] at b;obtain⟨ay,G,rfl⟩:=a;generalize E:d.getD c bW=bl at b;cases b;exact⟨_,[],by show(ak5 (d.getD c bW):Sem Value).run p v=_;simp_all,⟨_,G.symm,pV ay⟩,⟨[],ac⟩,ac⟩
  ·rename_i id l j;rw[j] at b;obtain⟨rfl,g,e,r⟩:=a;generalize E:d.getD c bW=o at b;cases b with|ref t s=>
   rw[e] at t;cases t;obtain⟨u,m,k,n,w,z,F,J⟩:=K id g l e r;obtain⟨rfl,rfl,rfl⟩:=s.kR w;refine⟨_,k,by show(ak5 (d.getD c bW):Sem Value).run p v=_;simp_all,⟨_,bo,z.fP D⟩,⟨n,by grind⟩,λam U=>?_⟩;grind
  grind
 |cell A L=>
  have b:=q.tmp A;simp only[se] at a;obtain⟨a1,a⟩:=a;split at a
  ·rename_i id l j;rw[j] at b;obtain⟨rfl,g,a0,e,ad,r⟩:=a;generalize E:d.getD A bW=o at b;cases b with|ref t s=>
   rw[e] at t;cases t;have:=s.ty;rw[ad] at this;cases this;obtain⟨M,an,R,rfl,N,Q⟩:=ph (q.tree id _ e).1 s;have V:=s.append (aX.Ia N Q);obtain⟨u,m,k,n,w,z,F,J⟩:=K id g _ e r;obtain⟨ao,S,T⟩:=V.kR w;subst S;subst T;subst ao;have a3:=(F M an bo).1;refine⟨cV P.1 R,k,?_,⟨_,bo,z.fP D⟩,⟨n,by grind⟩,λam U=>?_⟩
   ·show(do loadVar L (<-asAddr (d.getD A bW)):Sem Value).run p v=_;grind [KU,bY,ct,b2,cV,List.headD,asAddr]
   grind
  grind
theorem uw.rep {j:b1} {o:eW} {f:aO} {n:ajR} {e w0:bD} {i:X->Prop} {z:X->ajT} {k:X->ajZ} (l:cM o f n e i z k):∀{d:bn aj4} {m:bn aK} {a:ajZ},uw j f d m a->∃vs c,(d.mapM (BH n)).run j e=.ok vs e/\mx (Cu i e) m vs c/\(∃w,(a.map k).flatten.Perm (c.flatten++w))/\∀id∈a,∃g,aq f.h id=Y g
 |[],[],a,b=>by obtain rfl:a=[]:=b;exact⟨[],[],bo,trivial,⟨[],.refl _⟩,ac⟩
 |[],g::A,a,b=>b.elim
 |r::d,[],a,b=>b.elim
 |r::d,g::A,a,b=>by
  obtain⟨v,i1,K,rfl,t,u⟩:=b;obtain⟨B,s,C,p,⟨x,D⟩,E⟩:=t.rep l v;obtain⟨vs,c,F,q,⟨y,G⟩,H⟩:=uw.rep (w0:=w0) l u;refine⟨B::vs,s::c,?_,⟨p,q⟩,⟨x++y,?_⟩,λJ I=>?_⟩
  ·simp_all
  ·grind
  grind
theorem Mw:∀{k:X} {args:bn hE},∀b∈hO k args,k<=b
 |k,[],b,a=>by cases a
 |k,f::args,b,a=>by
  have d:=Mw (k:=k+1) (args:=args);cases f with
  |m e q=>
   rcases fG.1 a with rfl|a
   ·omega
   grind
  |w t p j h r=>
   rcases fG.1 a with rfl|a
   ·omega
   grind
  |v e=>have:=d b a;omega
  |o e=>have:=d b a;omega
  |c n l=>have:=d b a;omega
  |n=>have:=d b a;omega
  |s g i=>have:=d b a;omega
theorem pI.rep {Q:eW} {A:aO} {E:ajR} {w:bD} {F:X->Prop} {L:X->ajT} {t:X->ajZ} (u:cM Q A E w F L t) {B:X->Prop}:∀{k:X} {f:bn hE} {vs:ajT},pI A k f->vs.length=f.length->(∀e,e∈hO k f->∀v,vs[e-k]?=Y v->E.getD e bW=v)->∃b,mx (y4 F B w) f vs b/\b.flatten=((hO k f).map t).flatten/\∀id∈hO k f,k<=id/\∃r,aq A.h id=Y r
 |k,[],vs,g,C,x=>by cases vs with
  |nil=>exact⟨[],trivial,bo,by simp[hO]⟩
  |cons=>cases C
 |k,G::f,[],g,C,x=>by cases C
 |k,G::f,v::vs,g,C,x=>by
  have p:pI A (k+1) f->(∀e,e∈hO (k+1) f->e∈hO k (G::f))->∃b,mx (y4 F B w) f vs b/\b.flatten=((hO (k+1) f).map t).flatten/\∀id∈hO (k+1) f,k+1<=id/\∃r,aq A.h id=Y r:=λg T=>by
   have a3:=Mw (k:=k+1) (args:=f);exact pI.rep u g (by grind) (λe i am bl=>x e (T e i) am (by
    grind))
  cases G with
  |v r=>
   obtain⟨b,j,q,d⟩:=p g (λe i=>i);exact⟨[]::b,⟨bo,j⟩,by grind [hO],λid a=>⟨by have:=(d id a).1;omega,(d id a).2⟩⟩
  |o r=>
   obtain⟨b,j,q,d⟩:=p g (λe i=>i);exact⟨[]::b,⟨bo,j⟩,by grind [hO],λid a=>⟨by have:=(d id a).1;omega,(d id a).2⟩⟩
  |n=>
   obtain⟨b,j,q,d⟩:=p g (λe i=>i);exact⟨[]::b,⟨bo,j⟩,by grind [hO],λid a=>⟨by have:=(d id a).1;omega,(d id a).2⟩⟩
  |s a1 bx=>
   obtain⟨b,j,q,d⟩:=p g (λe i=>i);exact⟨[]::b,⟨bo,j⟩,by grind [hO],λid a=>⟨by have:=(d id a).1;omega,(d id a).2⟩⟩
  |c n c2=>
   obtain⟨b,j,q,d⟩:=p g (λe i=>i);exact⟨[]::b,⟨bo,j⟩,by grind [hO],λid a=>⟨by have:=(d id a).1;omega,(d id a).2⟩⟩
  |m r dl=>
   obtain⟨⟨J,z,K,U⟩,g⟩:=g;obtain⟨b,j,q,d⟩:=p g (λe i=>g3 _ i);have l:=u.tmp k;rw[J] at l;have I:E.getD k bW=v:=x k (by simp[hO]) v ac;rw[I] at l;obtain⟨D,_⟩:=u.tree k _ z;refine⟨t k::b,⟨?_,j⟩,by grind [ak9,hO],λid a=>?_⟩
   ·cases l with|ref y H=>
    rw[z] at y;cases y;obtain⟨rfl,rfl,rfl⟩:=ako.1 H;exact⟨L k,bo,D.fP K⟩
   rcases fG.1 a with rfl|a
   ·grind
   grind
  |w an dg ce a4 ds=>
   obtain⟨⟨J,z,⟨K,U⟩,bs⟩,g⟩:=g;obtain⟨b,j,q,d⟩:=p g (λe i=>g3 _ i);have l:=u.tmp k;rw[J] at l;have I:E.getD k bW=v:=x k (by simp[hO]) v ac;rw[I] at l;obtain⟨D,_⟩:=u.tree k _ z;refine⟨t k::b,⟨?_,j⟩,by grind [ak9,hO],λid a=>?_⟩
   ·cases l with
    |mg=>omega
    |view y H ay co cs=>
    rename_i c1 d0 ci M P V N;rw[z] at y;cases y;obtain⟨ao,a0,R⟩:=ako.1 H;simp only[ai.osl.injEq] at ao;subst ao;have O:L k=[.slice (Y ⟨M,P,bq⟩) V N]:=R;have S:=D;obtain⟨ap,av,ad,cv⟩:=S;rw[ad] at O;simp only[hM,aj3,ca] at O;refine⟨M,P,N,by rw[aw aa],aa,?_⟩;have:=aT.fP (τ:=.osl an) (B':=B) K D;grind
   rcases fG.1 a with rfl|a
   ·grind
   grind
theorem rX.ZH {q:FuncId} {j:Func} {c:Code} {b:bn hE} {a0:bn aj4} {C:bn aK} (c2:E.P.funcs[q]?=Y j) (f:j.body=Y c) (d0:j.results=a0.toArray) (fp:b.length<=j.ntmps) (g:∀d:eW,d.n=j.ntmps->d.pin=hO 0 b++nS (pn 0 b)->(∀a,d.I0 a\/d.B a->a<d.w0.heap.size/\¬d.F0 a)->uy d (pn 0 b)->lA E d.I0 d.w0->J E d c ⟨jS 0 b,ks 0 b⟩ (LM E.P b a0 C)):rX E q b C:=by
 intro r s y l K R N dl O U dg;obtain⟨d3,fn⟩:=G6 N;obtain⟨a1,H,bl,bs,em⟩:=Mv (k:=0) N
 let d:eW:={I0:=s,B:=y,F0:=λa=>a∈K.flatten,w0:=r,n:=j.ntmps,pin:=hO 0 b++nS (pn 0 b),vs:=λi=>l.getD i bW}
 have ad:∀i,(l.toArray++anl (j.ntmps-l.toArray.size) bW).getD i bW=l.getD i undef:=(by intro i;rw[ank,n3];grind);obtain⟨fs,ft⟩:=Zt dl;have ci:cM d ⟨jS 0 b,ks 0 b⟩ (l.toArray++anl (j.ntmps-l.toArray.size) bW) r s a1 H:=by
  refine{n:=?_,i0:=λ_ g=>g,i1:=λ_ g=>.inl g,ib:=R,tree:=?_,dis:=?_,tmp:=?_,frame:=λ_ _ _=>rfl,evo:=λ_ _=>.refl _ _,size:=bd _,os:=rfl,tape:=rfl,output:=rfl,pin:=λi _=>ad i}
  ·grind
  ·intro id m v;obtain⟨_,⟨q,ay,d6⟩,d7⟩:=bl id m v;rw[alY] at ay;grind [alk,akf]
  ·grind
  intro i;show cQ _ _ _ _ _ (gt (jS 0 b) i) _;rw[ad];rcases bs i with g|⟨w,M,ce⟩
  ·rw[mW] at g;rw[g];exact .dead _
  grind
 have d1:uy d (pn 0 b):=by
  cases o:pn 0 b with
  |none=>trivial
  |some d5=>
   obtain⟨i,q,ap⟩:=d5;rw[o] at U;obtain⟨_,_,a,d4,el,D,F,a3,d9,ek⟩:=U;have fr:d.pin=hO 0 b++nS (Y (i,q,ap)):=(by grind);refine⟨by grind [nS],λan T=>by grind [nS],a,d4,el,D,F,a3,d9,ek⟩
 refine calls_of_wp c2 f (wp_mono (g d bo rfl (λa f=>⟨R a f,λt=>f.elim (O a t).1 (O a t).2.1⟩) d1 dg _ r ⟨s,a1,H,ci⟩ rfl) ?_);rintro eq G x ⟨a4,⟨c1,am,ds,A,t⟩,⟨z,f0,I,e⟩,Q⟩;obtain⟨f1,o,d8,D,⟨fT,F⟩,a3⟩:=uw.rep (w0:=r) e ds;obtain⟨p,bx,L,ex⟩:=pI.rep e (B:=y) (vs:=l) t d3 (λan T w d2=>by
  rw[alY] at d2;rw[e.pin an (n5 _ T)];grind)
 have A:=jA.ok A;have V:∀id∈hO 0 b++am,∃m,aq a4.h id=Y m:=λid S=>(by grind);have u:=JN e V A;rw[j4,zf,<-L] at u;have u:(p.flatten++o.flatten).Nodup:=(by have:=(amx p.flatten F).nodup_iff.1 u;grind);have co:∀a∈p.flatten++o.flatten,∃id m,aq a4.h id=Y m/\a∈I id:=λa f=>(by have f:a∈((hO 0 b++am).map I).flatten:=(by rw[j4,zf,<-L];grind);obtain⟨ap,M,ce⟩:=lX.1 f;obtain⟨id,S,rfl⟩:=fe.1 M;obtain⟨m,v⟩:=V id S;grind);have av:∃w,(results j G.tmps).run E.P x=.ok w x/\∃z p o cJ,Ending.returned w=.returned (qg cJ)/\L1 s y r K b l C z p o cJ x:=
  ⟨_,aes d0 G.tmps x d8,z,p,o,_,bo,bx,D,u,(λa f=>by
   obtain⟨id,m,v,cs⟩:=co a f;obtain⟨ay,d6,d7,fz⟩:=(e.tree id m v).2.2 a cs;grind),e.i0,(λa f=>by
   rcases e.i1 a f with g|g|g
   ·grind
   ·exact .inr ⟨e.ib a (.inl f),.inl g⟩
   exact .inr ⟨e.ib a (.inl f),.inr g⟩),e.size,e.os,e.tape,e.output,e.evo,λa f cv=>e.frame a f cv⟩
 rcases c1 with rfl|rfl
 ·exact⟨Q,av⟩
 exact⟨Q,av⟩
end
end
section
open Classical in
def pick {a:Type} (c:a->Prop):bw a:=if h:∃b,c b then Y h.choose else bq
theorem ac0 {d:b->Prop} {c:b} (a:pick d=Y c):d c:=by
 unfold pick at a;split at a
 ·grind
 grind
inductive oZ where
 |v (τ:ai)
 |s (a:al)
 |p (id:X) (a b:bn aZ)
 |w (id:X)
structure nq where
 g:bn (X×oZ)
 h:bn (X×ai)
@[reducible] def qj:bn (X×oZ)->Type->Type
 |[],r=>r
 |(_,.v a)::l,r=>a.den×qj l r
 |(_,.s _)::l,r=>qj l r
 |(_,.p _ _ _)::l,r=>X×qj l r
 |(_,.w _)::l,r=>et×qj l r
@[reducible] def we:bn (X×ai)->Type
 |[]=>bt
 |(_,a)::l=>a.den×we l
@[reducible] def nq.den (a:nq):Type:=qj a.g (we a.h)
def ox {e:Type}:(c:bn (X×oZ))->qj c e->bn (X×al)
 |[],_=>[]
 |(d,.v f)::c,s=>(d,.val f s.1)::ox c s.2
 |(d,.s a)::c,s=>(d,a)::ox c s
 |(d,.p id a b)::c,s=>(d,.ref id (a++.idx s.1::b))::ox c s.2
 |(d,.w id)::c,s=>(d,.view id [] s.1.1 s.1.2)::ox c s.2
def vo {b:Type}:(a:bn (X×oZ))->qj a b->b
 |[],s=>s
 |(_,.v _)::a,s=>vo a s.2
 |(_,.s _)::a,s=>vo a s
 |(_,.p _ _ _)::a,s=>vo a s.2
 |(_,.w _)::a,s=>vo a s.2
def vl:(a:bn (X×ai))->we a->bn (X×aK)
 |[],_=>[]
 |(d,b)::a,s=>(d,⟨b,s.1⟩)::vl a s.2
def lg (a:nq) (b:a.den):aO:=⟨ox a.g b,vl a.h (vo a.g b)⟩
def hS {τ:ai} (a:ai) (b:τ.den):bw a.den:=if e:τ=a then Y (e▸b) else bq
theorem kv {a:Q.den} {b:k.den} (c:hS k a=Y b):(⟨Q,a⟩:aK)=⟨k,b⟩:=by grind [hS]
def wl:aZ->aZ->bA
 |.idx a,.idx b=>bI a b
 |.deref,.deref|.unst,.unst|.fst,.fst|.snd,.snd=>bp
 |_,_=>br
theorem wl.ok {a b:aZ} (c:wl a b=bp):a=b:=by cases a<;>cases b<;>first|rfl|(cases c;done)|(rw[ff c])
def l8:bn aZ->bn aZ->bA
 |[],[]=>bp
 |a::c,b::d=>wl a b&&l8 c d
 |_,_=>br
theorem l8.ok:∀{c d:bn aZ},l8 c d=bp->c=d
 |[],[],_=>rfl
 |[],_::_,b=>by cases b
 |_::_,[],b=>by cases b
 |a::c,e::d,b=>by simp only[l8,cE] at b;rw[wl.ok b.1,l8.ok b.2]
def uF:al->al->bA
 |.ref a c,.ref b d=>bI a b&&l8 c d
 |.addr a c,.addr b d=>bI a b&&l8 c d
 |_,_=>br
theorem uF.ok {a b:al} (c:uF a b=bp):a=b:=by cases a<;>cases b<;>first|(cases c;done)|(simp only[uF,cE] at c;grind [akJ,l8.ok])
def uG:bn al->bn al->bA
 |[],[]=>bp
 |a::c,b::d=>uF a b&&uG c d
 |_,_=>br
theorem uG.ok:∀{c d:bn al},uG c d=bp->c=d
 |[],[],_=>rfl
 |[],_::_,b=>by cases b
 |_::_,[],b=>by cases b
 |a::c,e::d,b=>by simp only[uG,cE] at b;rw[uF.ok b.1,uG.ok b.2]
def sn:al->al->bA
 |.da c e,.da d f=>bI c d&&uG e f
 |a,b=>uF a b
theorem sn.ok {a b:al} (c:sn a b=bp):a=b:=by cases a<;>cases b<;>first|exact uF.ok c|(simp only[sn,cE] at c;grind [akJ,uG.ok])
def BU:bn aZ->bn aZ->bn aZ->ajV
 |[],a,.idx k::b=>bif l8 a b then Y k else bq
 |s::c,a,d::b=>bif wl s d then BU c a b else bq
 |_,_,_=>bq
theorem SG:∀{d b e:bn aZ} {c:X},BU d b e=Y c->e=d++.idx c::b
 |[],b,[],c,a=>by cases a
 |[],b,s::e,c,a=>by
  cases s<;>simp only[BU] at a<;>try (cases a;done)
  grind [l8.ok]
 |s::d,b,[],c,a=>by cases a
 |s::d,b,g::e,c,a=>by
  simp only[BU] at a;cases f:wl s g with
  |false=>grind
  |true=>rw[f] at a;rw[wl.ok f,SG a];rfl
def qe {f:Type} (e:bn (X×al)) (g:bw f):(c:bn (X×oZ))->bw (qj c f)
 |[]=>g
 |(d,.v o)::c=>match gt e d with
  |.val _ m=>match hS o m with
   |some n=>(qe e g c).map (λi=>(n,i))
   |none=>bq
  |_=>bq
 |(d,.s a)::c=>match sn a (gt e d) with
  |true=>qe e g c
  |false=>bq
 |(d,.p id a b)::c=>match gt e d with
  |.ref h i=>bif bI id h then match BU a b i with
   |some k=>(qe e g c).map (λf=>(k,f))
   |none=>bq else bq
  |_=>bq
 |(d,.w id)::c=>match gt e d with
  |.view h [] l j=>bif bI id h then(qe e g c).map (λf=>((l,j),f)) else bq
  |_=>bq
def FT (b:bn (X×aK)):(a:bn (X×ai))->bw (we a)
 |[]=>Y ()
 |(d,g)::a=>match aq b d with
  |some e=>match hS g e.2 with
   |some f=>(FT b a).map (λc=>(f,c))
   |none=>bq
  |none=>bq
def x9:bn (X×ai)->X->bA
 |[],_=>br
 |(k,_)::r,n=>bif bI k n then bp else x9 r n
def ql:bn (X×oZ)->bn (X×ai)->bA
 |[],_=>bp
 |(_,.v _)::l,h=>ql l h
 |(_,.s a)::l,h=>(a.ids.all λid=>x9 h id)&&ql l h
 |(_,.p id _ _)::l,h=>x9 h id&&ql l h
 |(_,.w id)::l,h=>x9 h id&&ql l h
def proj (a:nq) (b:aO):bw a.den:=bif ql a.g a.h then qe b.g (FT b.h a.h) a.g else bq
theorem Ex:∀{b:bn (X×ai)} {c:we b} {id:X},x9 b id=bp->(aq (vl b c) id).isSome=bp
 |[],_,_,a=>by cases a
 |(k,e)::b,c,id,a=>by
  simp only[x9] at a;simp only[vl,aq];cases d:bI k id with
  |true=>rfl
  |false=>rw[d] at a;exact Ex (by grind)
theorem Bt {o:Type} {q:aO} {n:bw o}:∀{e:bn (X×oZ)} {f:qj e o},qe q.g n e=Y f->o5 (ox e f) q/\n=Y (vo e f)
 |[],f,c=>⟨trivial,c⟩
 |(d,.v F)::e,f,c=>by
  simp only[qe] at c;split at c
  case h_2=>cases c
  rename_i G D t;split at c
  case h_2=>cases c
  rename_i E u;obtain⟨x,k,rfl⟩:=fl.1 c;obtain⟨h,i⟩:=Bt k;refine⟨⟨?_,h⟩,i⟩;rw[t];cases kv u;rfl
 |(d,.s a)::e,f,c=>by
  simp only[qe] at c;split at c
  case h_2=>cases c
  rename_i r;obtain⟨h,i⟩:=Bt c;exact⟨⟨(sn.ok r).symm,h⟩,i⟩
 |(d,.p id a b)::e,f,c=>by
  simp only[qe] at c;split at c
  case h_2=>cases c
  rename_i m x k;cases j:bI id m with
  |false=>grind
  |true=>
  rw[j] at c;simp only[bH] at c;split at c
  case h_2=>cases c
  rename_i B A;obtain⟨y,l,rfl⟩:=fl.1 c;obtain⟨h,i⟩:=Bt l;refine⟨⟨?_,h⟩,i⟩;grind [SG,akJ]
 |(d,.w id)::e,f,c=>by
  simp only[qe] at c;split at c
  case h_2=>cases c
  rename_i m C z k;cases j:bI id m with
  |false=>grind
  |true=>
  rw[j] at c;simp only[bH] at c;obtain⟨y,l,rfl⟩:=fl.1 c;obtain⟨h,i⟩:=Bt l;refine⟨⟨?_,h⟩,i⟩;simp_all
theorem Rx {e:aO}:∀{b:bn (X×ai)} {c:we b},FT e.h b=Y c->o6 (vl b c) e
 |[],c,a=>trivial
 |(d,m)::b,c,a=>by
  simp only[FT] at a;split at a
  case h_2=>cases a
  rename_i k g;split at a
  case h_2=>cases a
  rename_i l i;obtain⟨j,f,rfl⟩:=fl.1 a;refine⟨?_,Rx f⟩;grind [kv]
theorem BS {r:Type} {c:bn (X×ai)} {t:we c}:∀{l:bn (X×oZ)} {s:qj l r},ql l c=bp->mE (ox l s) (vl c t)=bp
 |[],s,h=>rfl
 |(d,.v e)::l,s,h=>by have:=BS (r:=r) (t:=t) (l:=l) (s:=s.2) h;simp only[mE,ox,r5,bT,anm,alZ] at this|-;omega
 |(d,.s a)::l,s,h=>by simp only[ql,cE] at h;have:=BS (r:=r) (t:=t) (l:=l) (s:=s) h.2;simp only[mE,ox,r5,cE] at this|-;grind [Ex,ak1]
 |(_,.p id a b)::l,s,h=>by simp only[ql,cE] at h;have:=BS (r:=r) (t:=t) (l:=l) (s:=s.2) h.2;simp only[mE,ox,r5,cE] at this|-;refine⟨?_,this⟩;simp_all [Ex,r5,anm,ann,bT]
 |(_,.w id)::l,s,h=>by simp only[ql,cE] at h;have:=BS (r:=r) (t:=t) (l:=l) (s:=s.2) h.2;simp only[mE,ox,r5,cE] at this|-;refine⟨?_,this⟩;simp_all [Ex,r5,anm,ann,bT]
theorem tG {a:nq} {b:a.den} (c:proj a i=Y b):o5 (lg a b).g i/\o6 (lg a b).h i/\mE (lg a b).g (lg a b).h=bp:=by
 unfold proj at c;cases d:ql a.g a.h with
 |false=>grind
 |true=>
  rw[d] at c;obtain⟨e,f⟩:=Bt c;exact⟨e,Rx f,BS d⟩
inductive ho where
 |v (τ:ai)
 |m (τ:ai)
 |o (τ:ai)
 |c (f:X) (τs:bn ai)
 |n
 |s (f:X) (l:ajZ)
 |w (σ:ai)
@[reducible] def lM:bn ai->Type
 |[]=>bt
 |τ::a=>τ.den×lM a
@[reducible] def ht:bn ho->Type
 |[]=>bt
 |.c _ e::a=>lM e×ht a
 |.n::a=>bt×ht a
 |.s _ _::a=>bt×ht a
 |.v b::a=>b.den×ht a
 |.m b::a=>b.den×ht a
 |.o b::a=>b.den×ht a
 |.w d::a=>(bn d.den×X×X)×ht a
@[reducible] def iQ:bn ho->Type->Type
 |[],a=>a
 |.m e::b,a=>e.den×iQ b a
 |.w d::b,a=>bn d.den×iQ b a
 |.v _::b,a=>iQ b a
 |.o _::b,a=>iQ b a
 |.c _ _::b,a=>iQ b a
 |.n::b,a=>iQ b a
 |.s _ _::b,a=>iQ b a
structure js where
 f:X
 ps:bn ho
 rs:bn ai
 yQ:ht ps->bw (iQ ps (lM rs))
def i7:(c:bn ai)->lM c->bn aK
 |[],_=>[]
 |τ::b,a=>⟨τ,a.1⟩::i7 b a.2
def gz {j:Type}:(f:bn ho)->ht f->iQ f j->bn hE
 |[],_,_=>[]
 |.v e::d,a,b=>.v ⟨e,a.1⟩::gz d a.2 b
 |.m e::d,a,b=>.m ⟨e,a.1⟩ b.1::gz d a.2 b.2
 |.o e::d,a,b=>.o ⟨e,a.1⟩::gz d a.2 b
 |.c h l::d,a,b=>.c h (i7 l a.1)::gz d a.2 b
 |.n::d,a,b=>.n::gz d a.2 b
 |.w k::d,a,b=>.w k a.1.1 a.1.2.1 a.1.2.2 b.1::gz d a.2 b.2
 |.s g i::d,a,b=>.s g i::gz d a.2 b
def ig {d:Type}:(e:bn ho)->iQ e d->d
 |[],a=>a
 |.m _::b,a=>ig b a.2
 |.w _::b,a=>ig b a.2
 |.v _::b,a=>ig b a
 |.o _::b,a=>ig b a
 |.c _ _::b,a=>ig b a
 |.n::b,a=>ig b a
 |.s _ _::b,a=>ig b a
def jE:X->bn ho->bw ee
 |_,[]=>bq
 |k,.s a b::_=>Y (k,a,b)
 |k,_::c=>jE (k+1) c
theorem BO {r:Type}:∀{k:X} {ps:bn ho} {a:ht ps} {b:iQ ps r},pn k (gz ps a b)=jE k ps
 |k,[],a,b=>rfl
 |k,e::d,a,b=>by have c:=λa b=>BO (r:=r) (k:=k+1) (ps:=d) (a:=a) (b:=b);cases e<;>first|exact c _ _|rfl
def aA (E:fk) (a:js):Prop:=
 (∀(d:ajR) (e:bD),(callFunc a.f d).run E.P e=.ok (.enter a.f d) e)/\∀c b,a.yQ c=Y b->rX E a.f (gz a.ps c b) (i7 a.rs (ig a.ps b))
def hT:(j:ai)->j.den->bn aZ->(a:ai)->bw a.den
 |_,c,[],a=>hS a c
 |.osl d,i,.idx h::b,a=>match i[h]? with
  |some g=>hT d g b a
  |none=>bq
 |.optr d,c,.deref::b,a=>hT d c b a
 |.st d,c,.unst::b,a=>hT d c b a
 |.pr e _,c,.fst::b,a=>hT e c.1 b a
 |.pr _ f,c,.snd::b,a=>hT f c.2 b a
 |_,_,_,_=>bq
def Xu {a:k.den}:hT k a [] Q=hS Q a:=by cases k<;>rfl
theorem iO:∀{g:bn aZ} {τ:ai} {e:τ.den} {d:ai} {f:d.den},hT τ e g d=Y f->eK τ e g d f
 |[],τ,e,d,f,c=>by rw[Xu] at c;cases kv c;grind [eK.gq]
 |s::g,τ,e,d,f,c=>by
  cases τ<;>cases s<;>simp only[hT] at c<;>try (cases c;done)
  case osl.idx t i=>
   split at c
   ·rename_i h j;exact⟨h,j,iO c⟩
   grind
  case optr.deref t=>exact iO (τ:=t) c
  case st.unst t=>exact iO (τ:=t) c
  case pr.fst a b=>exact iO (τ:=a) c
  case pr.snd a b=>exact iO (τ:=b) c
def yF {τ':ai} (b:τ'.den) (a:ai):bw a.den:=if e:eF τ' a=bp then Y (cast (eF.den e) b) else bq
theorem Rj {b:Q.den} {c:k.den} (a:yF b k=Y c):n8 Q b k c:=by
 unfold yF at a;split at a
 ·rename_i d;cases a;exact .same d (cast_heq _ _).symm
 grind
def Bp:(c:ai)->c.den->(b:ai)->bw b.den
 |.optr d,a,.ptr .c7 e=>(yF (τ':=d) a e).map Y
 |_,a,b=>yF a b
theorem acS {c:Q.den} {d:k.den} (a:Bp Q c k=Y d):n8 Q c k d:=by
 unfold Bp at a;split at a
 ·obtain⟨f,b,rfl⟩:=fl.1 a;simp only[yF] at b;split at b
  ·rename_i e;cases b;exact .ptr e (cast_heq _ _).symm
  grind
 exact Rj a
def pW:ai->Value->bA
 |τ,.agg _=>pd τ
 |_,.tuple _=>br
 |τ,_=>!pd τ
theorem pW.ok (a:pW k S=bp):cV k S.cells.toList=S:=by
 cases S<;>simp only[pW] at a<;>first
  |(cases a;done)
  |(rw[F1 a];rfl)
  |(rw[tX] at a;rw[FZ a];rfl)
def nC (
 h:bn (X×aK)) (f:ajZ):al->(a:ai)->bw a.den
 |.val _ g,a=>yF g a
 |.dd d,a=>bif pW a d then iM a d.cells.toList else bq
 |.ref id c,a=>match eQ id f with
  |true=>bq
  |false=>match aq h id with
   |none=>bq
   |some b=>match fb b.1 c with
    |none=>bq
    |some e=>match hT b.1 b.2 c e with
     |none=>bq
     |some i=>Bp e i a
 |_,_=>bq
theorem Hb {h:k.den} (a:nC e f d k=Y h):y2 e f d ⟨k,h⟩:=by
 cases d with
 |val c b=>exact Rj a
 |dd p=>
  simp only[nC] at a;cases i:pW k p with
  |false=>grind
  |true=>rw[i] at a;exact⟨a,pW.ok i⟩
 |ref id n=>
  simp only[nC] at a;split at a
  ·cases a
  rename_i j;split at a
  ·cases a
  rename_i o l;split at a
  ·cases a
  rename_i c q;split at a
  ·cases a
  rename_i b m;have:eQ id f=br/\∃g c b,aq e id=Y g/\eK g.1 g.2 n c b/\n8 c b k h:=⟨j,o,c,b,l,iO m,acS a⟩;exact this
 |_=>cases a
def uJ (d:bn (X×aK)) (c:ajZ):al->(b:ai)->bw b.den
 |.hz a,.ptr .be e=>bif oT e then(nC d c a e).map Y else bq
 |a,b=>nC d c a b
def ss (d:bn (X×aK)) (c:ajZ):bn al->(b:ai)->bw b.den
 |[],.nil=>Y ()
 |a::f,.pr e b=>bif oT e then(uJ d c a e).bind λh=>(ss d c f b).map λg=>(h,g) else bq
 |_,_=>bq
def xj (d:bn (X×aK)) (c:ajZ):al->(b:ai)->bw b.den
 |.hz (.da f e),.ptr .be (.fn g h)=>bif bI f g then(ss d c e h).map Y else bq
 |a,b=>uJ d c a b
def MT {c:k.den} (a:uJ e f d k=Y c):oW e f d k c:=by
 unfold uJ at a;split at a
 ·rename_i i h;cases b:oT h with
  |false=>rw[b] at a;cases a
  |true=>
   rw[b,bH] at a;obtain⟨j,g,rfl⟩:=fl.1 a;exact .hz b (.base (Hb g))
 exact .base (Hb a)
def MV {h:bn (X×aK)} {g:ajZ}:∀{f:bn al} {c:ai} {d:c.den},ss h g f c=Y d->wA h g f c d
 |[],c,d,b=>by
  cases c<;>simp only[ss] at b<;>try (cases b;done)
  exact .nil
 |a::f,c,d,b=>by
  cases c<;>simp only[ss] at b<;>try (cases b;done)
  rename_i c l;cases e:oT c with
  |false=>rw[e] at b;cases b
  |true=>
   rw[e,bH] at b;obtain⟨m,j,b⟩:=eL.1 b;obtain⟨k,i,rfl⟩:=fl.1 b;exact .cons e (MT j) (MV i)
def Vx {c:k.den} (a:xj e f d k=Y c):oW e f d k c:=by
 unfold xj at a;split at a
 ·rename_i h j i l;cases b:bI h i with
  |false=>rw[b] at a;cases a
  |true=>
   rw[b,bH] at a;obtain rfl:=ff b;obtain⟨m,g,rfl⟩:=fl.1 a;exact .hz bo (.da (MV g))
 exact MT a
def pb (b:bn (X×aK)) (a:ajZ):(g:bn ai)->bn al->bw (lM g)
 |[],[]=>Y ()
 |τ::d,c::as=>match xj b a c τ with
  |some f=>(pb b a d as).map (λe=>(f,e))
  |none=>bq
 |_,_=>bq
def OD {f:bn (X×aK)} {d:ajZ}:∀{c:bn ai} {e:bn al} {b:lM c},pb f d c e=Y b->iq (λb g=>oW f d b g.1 g.2) e (i7 c b)
 |[],[],_,_=>trivial
 |[],_::_,_,a=>by cases a
 |_::_,[],_,a=>by cases a
 |τ::k,j::as,b,a=>by
  simp only[pb] at a;split at a
  case h_2=>cases a
  rename_i m i;obtain⟨l,h,rfl⟩:=fl.1 a;exact⟨Vx i,OD h⟩
def rM:bn al->bn ho->ajZ
 |.ref id []::as,.m _::a=>id::rM as a
 |.ref id []::as,.o _::a=>id::rM as a
 |.view id [] _ _::as,.w _::a=>id::rM as a
 |_::as,_::a=>rM as a
 |_,_=>[]
def tw:Value->bA
 |.slice bq 0 0=>bp
 |_=>br
theorem tw.ok (a:tw S=bp):S=.slice bq 0 0:=by grind [tw]
def Ba:(a:ai)->Value->bw a.den
 |.osl _,.slice bq 0 0=>Y []
 |_,_=>bq
theorem ZC {b:k.den} (a:Ba k S=Y b):S=.slice bq 0 0/\∃c,(⟨k,b⟩:aK)=⟨.osl c,[]⟩:=by
 unfold Ba at a;split at a
 ·simp_all
 grind
def fJ (d:bn (X×aK)) (f:ajZ):(t:bn ho)->bn al->bw (ht t)
 |[],[]=>Y ()
 |.v g::b,p::as=>match nC d f p g with
  |some e=>(fJ d f b as).map (λa=>(e,a))
  |none=>bq
 |.c r u::b,.da q a::as=>bif bI q r then match pb d f u a with
  |some e=>(fJ d f b as).map (λa=>(e,a))
  |none=>bq else bq
 |.m g::b,.ref id []::as=>bif g.fP&&rT g then match aq d id with
  |some h=>match hS g h.2 with
   |some e=>(fJ d f b as).map (λa=>(e,a))
   |none=>bq
  |none=>bq else bq
 |.o g::b,.ref id []::as=>match aq d id with
  |some h=>match hS g h.2 with
   |some e=>(fJ d f b as).map (λa=>(e,a))
   |none=>bq
  |none=>bq
 |.n::b,.dd i::as=>bif tw i then(fJ d f b as).map (λa=>((),a)) else bq
 |.s _ _::b,_::as=>(fJ d f b as).map (λa=>((),a))
 |.o g::b,.dd i::as=>match Ba g i with
  |some e=>(fJ d f b as).map (λa=>(e,a))
  |none=>bq
 |.w l::b,.view id [] k j::as=>bif l.fP then(bif cf k j then match aq d id with
  |some h=>match hS (.osl l) h.2 with
   |some e=>(fJ d f b as).map (λa=>((e,k,j),a))
   |none=>bq
  |none=>bq else bq) else bq
 |_,_=>bq
def CH {h:Type} (f:bn (X×aK)) (e:ajZ) (av:al) (c:ai) (d:c.den->bw h):bw h:=match av with
 |.ref id g=>match eQ id e with
  |true=>bq
  |false=>match aq f id with
   |none=>bq
   |some a=>match fb a.1 g with
    |none=>bq
    |some i=>(hT a.1 a.2 g i).bind λj=>match Bp i j c with
     |none=>bq
     |some b=>d b
 |av=>match nC f e av c with
  |none=>bq
  |some b=>d b
theorem UW {c:k.den->bw b}:CH e f d k c=(nC e f d k).bind c:=by
 cases d with
 |ref id g=>
  grind [eQ,aq,fb,hT,Bp,CH,nC]
 |_=>
  simp only[CH];split
  ·rename_i a;rw[a];rfl
  rename_i a;rw[a];rfl
def ky {p:Type} (e:bn (X×aK)) (g:ajZ):(x:bn ho)->bn al->(ht x->bw p)->bw p
 |[],[],a=>a ()
 |.v h::d,r::as,a=>CH e g r h λf=>ky e g d as λb=>a (f,b)
 |.c u y::d,.da t b::as,a=>bif bI t u then match pb e g y b with
  |some f=>ky e g d as λb=>a (f,b)
  |none=>bq else bq
 |.m h::d,.ref id []::as,a=>bif h.fP&&rT h then match aq e id with
  |some i=>match hS h i.2 with
   |some f=>ky e g d as λb=>a (f,b)
   |none=>bq
  |none=>bq else bq
 |.o h::d,.ref id []::as,a=>match aq e id with
  |some i=>match hS h i.2 with
   |some f=>ky e g d as λb=>a (f,b)
   |none=>bq
  |none=>bq
 |.n::d,.dd j::as,a=>bif tw j then ky e g d as λb=>a ((),b) else bq
 |.s _ _::d,_::as,a=>ky e g d as λb=>a ((),b)
 |.o h::d,.dd j::as,a=>match Ba h j with
  |some f=>ky e g d as λb=>a (f,b)
  |none=>bq
 |.w q::d,.view id [] l k::as,a=>bif q.fP then(bif cf l k then match aq e id with
  |some i=>match hS (.osl q) i.2 with
   |some f=>ky e g d as λb=>a ((f,l,k),b)
   |none=>bq
  |none=>bq else bq) else bq
 |_,_,_=>bq
theorem nG {A:Type} {d:bn (X×aK)} {f:ajZ}:∀{k:bn ho} {q:bn al} {b:ht k->bw A},ky d f k q b=(fJ d f k q).bind b
 |[],[],b=>rfl
 |[],_::_,b=>rfl
 |p::a,[],b=>by cases p<;>rfl
 |.v h::a,e::as,b=>by
  simp only[ky,fJ,UW];cases nC d f e h with
  |none=>rfl
  |some g=>
   simp only[aI];rw[nG];cases fJ d f a as<;>rfl
 |.c z B::a,e::as,b=>by
  cases e with
  |da y i=>
   simp only[ky,fJ];cases bI y z with
   |false=>rfl
   |true=>
    simp only[bH];cases pb d f B i with
    |none=>rfl
    |some g=>
     simp only;rw[nG];cases fJ d f a as<;>rfl
  |ref id p=>cases p<;>rfl
  |_=>rfl
 |.m h::a,e::as,b=>by
  cases e with
  |ref id p=>
   cases p with
   |cons=>rfl
   |nil=>
    simp only[ky,fJ];cases(h.fP&&rT h) with
    |false=>rfl
    |true=>
     simp only[bH];cases aq d id with
     |none=>rfl
     |some j=>
      simp only;cases hS h j.2 with
      |none=>rfl
      |some g=>
       simp only;rw[nG];cases fJ d f a as<;>rfl
  |_=>rfl
 |.o h::a,e::as,b=>by
  cases e with
  |ref id p=>
   cases p with
   |cons=>rfl
   |nil=>
    simp only[ky,fJ];cases aq d id with
    |none=>rfl
    |some j=>
     simp only;cases hS h j.2 with
     |none=>rfl
     |some g=>
      simp only;rw[nG];cases fJ d f a as<;>rfl
  |dd l=>
   simp only[ky,fJ];cases Ba h l with
   |none=>rfl
   |some g=>
    simp only;rw[nG];cases fJ d f a as<;>rfl
  |_=>rfl
 |.w u::a,e::as,b=>by
  cases e with
  |view id p t r=>
   cases p with
   |cons=>rfl
   |nil=>
    simp only[ky,fJ];cases u.fP with
    |false=>rfl
    |true=>
     simp only[bH];cases cf t r with
     |false=>rfl
     |true=>
     simp only[bH];cases aq d id with
     |none=>rfl
     |some j=>
      simp only;cases hS (.osl u) j.2 with
      |none=>rfl
      |some g=>
       simp only;rw[nG];cases fJ d f a as<;>rfl
  |ref id p=>cases p<;>rfl
  |_=>rfl
 |.n::a,e::as,b=>by
  cases e with
  |dd l=>
   simp only[ky,fJ];cases tw l with
   |false=>rfl
   |true=>
    simp only[bH];rw[nG];cases fJ d f a as<;>rfl
  |ref id p=>cases p<;>rfl
  |_=>rfl
 |.s C i::a,e::as,b=>by
  have x:∀g:bw (ht a),(g.bind λi=>b ((),i))=(g.map λi=>((),i)).bind b:=λg=>(by cases g<;>rfl);cases e with
  |ref id p=>cases p<;>(simp only[ky,fJ];rw[nG];grind)
  |view id p t r=>cases p<;>(simp only[ky,fJ];rw[nG];grind)
  |_=>simp only[ky,fJ];rw[nG];exact x _
theorem Le {r:Type}:∀{ps:bn ho} {a:ht ps} {b:iQ ps r} {avs:bn al},gm avs (gz ps a b)=rM avs ps
 |[],a,b,avs=>by cases avs with|nil=>rfl|cons h c=>cases h<;>first|rfl|(rename_i id p;cases p<;>rfl)|(rename_i id p c g;cases p<;>rfl)
 |p::c,a,b,[]=>by cases p<;>rfl
 |p::c,a,b,f::avs=>by have d:=λa b=>Le (r:=r) (ps:=c) (a:=a) (b:=b) (avs:=avs);cases p<;>cases f<;>first|exact d _ _|(rename_i id e;cases e<;>simp only[gz,gm,rM,d];done)|(rename_i id e c g;cases e<;>simp only[gz,gm,rM,d])
theorem p6 {G:Type} {q:bn (X×aK)} {u:ajZ}:∀{r:bn ho} {e:ht r} {g:iQ r G} {h:bn al},fJ q u r h=Y e->oV q u h (gz r e g)
 |[],e,g,[],_=>trivial
 |[],e,g,_::_,a=>by cases a
 |p::i,e,g,[],a=>by cases p<;>cases a
 |.v t::i,e,g,d::h,a=>by
  simp only[fJ] at a;split at a
  case h_2=>cases a
  rename_i l j;obtain⟨k,b,rfl⟩:=fl.1 a;exact⟨by cases d<;>exact Hb j,p6 b⟩
 |.c F J::i,e,g,d::h,a=>by
  cases d with
  |da E k=>
   simp only[fJ] at a;cases f:bI E F with
   |false=>grind
   |true=>
    rw[f] at a;obtain rfl:=ff f;simp only[bH] at a;split at a
    case h_2=>cases a
    rename_i l j;obtain⟨I,b,rfl⟩:=fl.1 a;exact⟨⟨bo,OD j⟩,p6 b⟩
  |ref id p=>cases p<;>cases a
  |_=>cases a
 |.m t::i,e,g,d::h,a=>by
  cases d with
  |ref id p=>cases p with
   |cons=>cases a
   |nil=>
    simp only[fJ] at a;cases f:(t.fP&&rT t) with
    |false=>grind
    |true=>
     rw[f] at a;simp only[cE] at f;simp only[bH] at a;split at a
     case h_2=>cases a
     rename_i B A;split at a
     case h_2=>cases a
     rename_i l j;obtain⟨k,b,rfl⟩:=fl.1 a;refine⟨⟨?_,f.1,f.2⟩,p6 b⟩;grind [kv]
  |_=>cases a
 |.o t::i,e,g,d::h,a=>by
  cases d with
  |ref id p=>cases p with
   |cons=>cases a
   |nil=>
    simp only[fJ] at a;split at a
    case h_2=>cases a
    rename_i B A;split at a
    case h_2=>cases a
    rename_i l j;obtain⟨k,b,rfl⟩:=fl.1 a;refine⟨?_,p6 b⟩;show aq q id=Y _;grind [kv]
  |dd C=>
   simp only[fJ] at a;split at a
   case h_2=>cases a
   rename_i l j;obtain⟨k,b,rfl⟩:=fl.1 a;exact⟨ZC j,p6 b⟩
  |_=>cases a
 |.w H::i,e,g,d::h,a=>by
  cases d with
  |view id p y x=>cases p with
   |cons=>cases a
   |nil=>
    simp only[fJ] at a;cases f:H.fP with
    |false=>grind
    |true=>
     rw[f] at a;simp only[bH] at a;cases z:cf y x with
     |false=>grind
     |true=>
     rw[z] at a;simp only[bH] at a;split at a
     case h_2=>cases a
     rename_i B A;split at a
     case h_2=>cases a
     rename_i l j;obtain⟨k,b,rfl⟩:=fl.1 a;refine⟨⟨?_,⟨bo,bo⟩,gL z,f⟩,p6 b⟩;grind [kv]
  |ref id p=>cases p<;>cases a
  |_=>cases a
 |.n::i,e,g,d::h,a=>by
  cases d with
  |dd C=>
   simp only[fJ] at a;cases f:tw C with
   |false=>grind
   |true=>
    rw[f] at a;obtain⟨k,b,rfl⟩:=fl.1 a;exact⟨tw.ok f,p6 b⟩
  |ref id p=>cases p<;>cases a
  |_=>cases a
 |.s D k::i,e,g,d::h,a=>by
  have a:(fJ q u i h).map (λl=>(((),l):ht (.s D k::i)))=Y e:=by
   cases d with
   |ref id p=>cases p<;>exact a
   |view id p y x=>cases p<;>exact a
   |_=>exact a
  obtain⟨l,b,rfl⟩:=fl.1 a;refine⟨?_,p6 b⟩;cases d with
  |ref id p=>cases p<;>trivial
  |view id p y x=>cases p<;>trivial
  |_=>trivial
end
section
def mL:(τ:ai)->τ.den->bn aZ->(b:ai)->b.den->bw τ.den
 |τ,_,[],_,a=>hS τ a
 |.osl f,h,.idx g::c,b,a=>match h[g]? with
  |some k=>(mL f k c b a).map λe=>h.set g e
  |none=>bq
 |.optr f,d,.deref::c,b,a=>mL f d c b a
 |.st f,d,.unst::c,b,a=>mL f d c b a
 |.pr i _,d,.fst::c,b,a=>(mL i d.1 c b a).map λe=>(e,d.2)
 |.pr _ j,d,.snd::c,b,a=>(mL j d.2 c b a).map λe=>(d.1,e)
 |_,_,_,_,_=>bq
theorem aew {b:k.den} {a:Q.den}:mL k b [] Q a=hS k a:=by cases k<;>rfl
theorem e3.Zr {d:k.den} {a:Q.den} {b:k.den} (c:hS k a=Y b):e3 k d [] Q a b:=by cases kv c;cases k<;>exact⟨bo,bo⟩
theorem nc:∀{k:bn aZ} {τ:ai} {g:τ.den} {f:ai} {h:f.den} {j:τ.den},mL τ g k f h=Y j->e3 τ g k f h j
 |[],τ,g,f,h,j,c=>by grind [e3.Zr,aew]
 |s::k,τ,g,f,h,j,c=>by
  cases τ<;>cases s<;>simp only[mL] at c<;>try (cases c;done)
  case osl.idx t i=>
   split at c
   ·rename_i l m;obtain⟨d,e,rfl⟩:=fl.1 c;exact⟨l,d,m,nc e,bo⟩
   grind
  case optr.deref t=>exact nc (τ:=t) c
  case st.unst t=>exact nc (τ:=t) c
  case pr.fst a b=>
   obtain⟨d,e,rfl⟩:=fl.1 c;exact⟨d,nc e,bo⟩
  case pr.snd a b=>
   obtain⟨d,e,rfl⟩:=fl.1 c;exact⟨d,nc e,bo⟩
def fY (a:Z):ajV:=if 0<=a then Y a.toNat else bq
theorem Zj {b:Z} (c:fY b=Y a):b=(a:Z):=by grind [fY]
def bf (b:X) (a:Z):ajV:=if 0<=a/\a.toNat<b then Y a.toNat else bq
theorem OW {b:Z} (c:bf m b=Y a):b=(a:Z)/\a<m:=by grind [bf]
def bh (a:X):bw bt:=if a<=hB then Y () else bq
theorem yi {b:bt} (c:bh a=Y b):a<=hB:=by grind [bh]
def kB (b:cr) (c a:Z):ajU:=if a≠0 then Y (b.wrap (c.tdiv a)) else bq
def iR (b a:Z):ajU:=if a≠0 then Y (b.tmod a) else bq
def h4 (a:cr) (c b:Z):ajU:=if 0<=b then Y (a.wrap (c*2^min b.toNat a.bits)) else bq
def eJ (b:cr) (c a:Z):ajU:=if 0<=a then Y (c.fdiv (2^min a.toNat b.bits)) else bq
def eZ (a:cr) (b c:Z):Z:=a.wrap (ch a.bits b&&&ch a.bits c).toNat
def gr (a:cr) (b c:Z):Z:=a.wrap (ch a.bits b|||ch a.bits c).toNat
def tW (a:cr) (b c:Z):Z:=a.wrap (ch a.bits b^^^ch a.bits c).toNat
def CF (a:cr) (b c:Z):Z:=a.wrap (ch a.bits b&&&~~~ch a.bits c).toNat
def xe (c:bw al) (a:X):ajV:=
 match c with
 |none=>Y a
 |some (.val (.int _) b)=>fY b
 |some _=>bq
theorem CR {c:bw al} (b:xe c a=Y m):sq c a m:=by
 unfold xe at b;unfold sq;split at b
 ·grind
 ·exact Zj b
 grind
def gZ (b a c:X):bw bt:=if b<=a/\a<=c then Y () else bq
theorem Ph {b:X} {c:bt} (d:gZ m a b=Y c):m<=a/\a<=b:=by grind [gZ]
def oI (_:X):bw bt:=Y ()
def fj (a b:Z):ajV:=if 0<=a/\a<=b/\b<=(hB:Z) then Y a.toNat else bq
open Classical in
def rB {b:Type} (c:X) (d a:bw b):bw b:=if c=0 then if d=a then a else bq else a
theorem Zo {d e:bw b} {c:b} (f:rB a d e=Y c):e=Y c/\(a=0->d=Y c):=by grind [absurd,rB]
def pT:aj0:=[0,1,28,2,29,14,24,3,30,22,20,15,25,17,4,8,31,27,13,23,21,19,16,7,26,12,18,6,11,5,10,9]
inductive GN where
 |eV (av:al)
 |opt (α:Type) (o:bw α) (f:α->al)
 |new (α:Type) (o:bw α) (t:α->aK) (d:X)
 |no
def kS (tt:bn (bG×ai)) (z:bn (X×ai)) (k:bn (X×aK)) (g:bP->al) (w:X) (v:Op):GN:=
 match v with
 |.binOp v _ b e _=>match g b,g e with
  |.val (.int c) b,.val (.int A) e=>if c=A then
   (match v with
   |.add=>.eV (.val (.int c) (c.wrap (b+e)))
   |.sub=>.eV (.val (.int c) (c.wrap (b-e)))
   |.mul=>.eV (.val (.int c) (c.wrap (b*e)))
   |.quo=>.opt Z (kB c b e) (.val (.int c))
   |.rem=>.opt Z (iR b e) (.val (.int c))
   |.shl=>.opt Z (h4 c b e) (.val (.int c))
   |.shr=>.opt Z (eJ c b e) (.val (.int c))
   |.and=>.eV (.val (.int c) (eZ c b e))
   |.or=>.eV (.val (.int c) (gr c b e))
   |.xor=>.eV (.val (.int c) (tW c b e))
   |.andNot=>.eV (.val (.int c) (CF c b e))
   |_=>.no) else
   (match v with
   |.shl=>.opt Z (h4 c b e) (.val (.int c))
   |.shr=>.opt Z (eJ c b e) (.val (.int c))
   |_=>.no)
  |_,_=>.no
 |.unOp .neg _ b=>match g b with
  |.val (.int c) b=>.eV (.val (.int c) (c.wrap (0-b)))
  |_=>.no
 |.convert t p b=>match aq tt t,aq tt p,g b with
  |some (.int _),Y (.int c),.val (.int _) b=>.eV (.val (.int c) (c.wrap b))
  |_,_,_=>.no
 |.nilCheck b=>match g b with
  |.val (.ptr r a) b=>.opt a.den b λe=>.val (.ptr r a) (Y e)
  |_=>.no
 |.indexAddr h b q=>match gR tt h,g q with
  |some i,.val (.int _) q=>match g b with
   |.val (.a6 r a) j=>bif a9 i a then .opt a.den (aj j q) λe=>.val (.ptr r a) (Y e) else .no
   |.ref id f=>match aq k id with
    |some d=>match fb d.1 f with
     |some (.osl a)=>bif a9 i a then .opt X ((hT d.1 d.2 f (.osl a)).bind λj=>bf j.length q) λc=>.addr id (f++[.idx c]) else .no
     |_=>.no
    |none=>.no
   |.view id [] s u=>match aq k id with
    |some d=>match d.1 with
     |.osl a=>bif a9 i a then .opt X (bf (u-s) q) λc=>.addr id [.idx (s+c)] else .no
     |_=>.no
    |none=>.no
   |_=>.no
  |_,_=>.no
 |.load h b=>match aq tt h with
  |some i=>match g b with
   |.addr id f=>match aq k id with
    |some d=>match fb d.1 f with
     |some a=>bif a9 i a&&a.pure then .opt a.den (hT d.1 d.2 f a) λe=>.val a e else .no
     |none=>.no
    |none=>.no
   |.ref id f=>match aq k id with
    |some d=>match fb d.1 f with
     |some (.optr a)=>bif a9 i a&&a.pure then .opt a.den (hT d.1 d.2 (f++[.deref]) a) λe=>.val a e else .no
     |_=>.no
    |none=>.no
   |.val (.ptr _ a) b=>bif a9 i a then .opt a.den b λe=>vW a e else .no
   |_=>.no
  |none=>.no
 |.fieldAddr h b m=>match lI tt h,g b with
  |some i,.val (.ptr r (.st a)) b=>bif a9 i a&&(fA a m).isSome then .opt a.den b λe=>(match rj a e m with
   |some n=>.val (.ptr r n.1) (Y n.2)
   |none=>.dead) else .no
  |_,_=>.no
 |.slice h b s u bq=>match gR tt h with
  |some i=>match g b with
   |.val (.a6 r a) j=>bif a9 i a then
    .opt et ((xe (s.map g) 0).bind λl=>(xe (u.map g) j.length).bind λp=>(gZ l p j.length).map λ_=>(l,p)) (λn=>.val (.a6 r a) ((j.take n.2).drop n.1)) else .no
   |.ref id f=>match aq k id with
    |some d=>match fb d.1 f with
     |some (.osl a)=>bif a9 i a then
      .opt et ((hT d.1 d.2 f (.osl a)).bind λj=>(xe (s.map g) 0).bind λl=>(xe (u.map g) j.length).bind λp=>(gZ l p j.length).bind λ_=>(oI j.length).map λ_=>(l,p)) (λn=>.view id f n.1 n.2) else .no
     |_=>.no
    |none=>.no
   |_=>.no
  |none=>.no
 |.makeSlice h l o=>match gR tt h,aq z w,aq k w with
  |some i,Y (.osl a),bq=>match mi a,g l,g o with
   |some y,.val (.int _) l,.val (.int _) o=>bif a9 i a&&b3 a.size 2000 then
    .new X (fj l o) (λm=>⟨.osl a,bJ m y⟩) w else .no
   |_,_,_=>.no
  |_,_,_=>.no
 |.index h b q=>match aq tt h,g b,g q with
  |some .str,.dd (.string t),.val (.int _) m=>.opt Z (qn t m) (.val (.int .u8))
  |some .str,.val .str t,.val (.int _) m=>.opt Z (qn t m) (.val (.int .u8))
  |_,_,_=>.no
 |.lookup h b c B=>match ln tt h,g b,g c with
  |some i,.ref id f,.val (.int .i64) c=>match aq k id with
   |some d=>match fb d.1 f with
    |some (.mp a)=>match mi a with
     |some y=>bif a9 i a then .opt (bw (bn (Z×a.den)×X)) (hT d.1 d.2 f (.mp a)) λx=>Fc a x y c B else .no
     |none=>.no
    |_=>.no
   |none=>.no
  |_,_,_=>.no
 |.call o=>match o.callee,o.args.toList,o.argTypes.toList with
  |.builtin .len,[b],[h]=>match gR tt h,g b with
   |some _,.ref id f=>match aq k id with
    |some d=>match fb d.1 f with
     |some (.osl a)=>.opt (bn a.den) (hT d.1 d.2 f (.osl a)) λj=>.val (.int .i64) (j.length:Z)
     |_=>.no
    |none=>.no
   |none,.ref id f=>match ln tt h,aq k id with
    |some _,Y d=>match fb d.1 f with
     |some (.mp a)=>.opt (bw (bn (Z×a.den)×X)) (hT d.1 d.2 f (.mp a)) λx=>.val (.int .i64) (yo x)
     |_=>.no
    |_,_=>.no
   |_,_=>.no
  |_,_,_=>.no
 |_=>.no
theorem Ol:∀{t:ai} {y:t.den} {b:X},(fA t b).isSome=bp->∃d,rj t y b=Y d
 |.pr e c,y,0,_=>⟨_,bo⟩
 |.pr e c,y,b+1,a=>by
  simp only[fA] at a;split at a
  ·rename_i d f;exact Ol (t:=c) (by grind)
  grind
 |.int _,_,_,a=>by cases a
 |.bool,_,_,a=>by cases a
 |.str,_,_,a=>by cases a
 |.a6 _ _,_,_,a=>by cases a
 |.ptr _ _,_,_,a=>by cases a
 |.osl _,_,_,a=>by cases a
 |.optr _,_,_,a=>by cases a
 |.st _,_,_,a=>by cases a
 |.nil,_,_,a=>by cases a
 |.eB,_,_,a=>by cases a
def GN.K (g:GN) (b:al->bn (X×aK)->Prop):Prop:=
 match g with
 |.eV e=>b e []
 |.opt _ c f=>∃a,c=Y a/\b (f a) []
 |.new _ c h d=>∃a,c=Y a/\b (.ref d []) [(d,h a)]
 |.no=>b7
theorem Iq {tt:bn (bG×ai)} {P:Op} {Q:al->bn (X×aK)->Prop} (b:(kS tt l e V a P).K Q):(gY tt l e V a P).K Q:=by
 unfold kS at b;split at b
 ·rename_i P r m j a0;simp only[gY];split at b
  case h_2=>exact b.elim
  rename_i q m T j h ad;simp only[h,ad];split at b
  ·rename_i x;subst x;split at b
   ·simp only[l0,cg];exact⟨_,⟨trivial,bo⟩,b⟩
   ·simp only[l0,cg];exact⟨_,⟨trivial,bo⟩,b⟩
   ·simp only[l0,cg];exact⟨_,⟨trivial,bo⟩,b⟩
   ·obtain⟨w,i,f⟩:=b;unfold kB at i;split at i
    ·rename_i c;cases i;simp only[l0,cg];exact⟨_,⟨c,bo⟩,f⟩
    grind
   ·obtain⟨w,i,f⟩:=b;unfold iR at i;split at i
    ·rename_i c;cases i;simp only[l0,cg];exact⟨_,⟨c,bo⟩,f⟩
    grind
   ·obtain⟨w,i,f⟩:=b;unfold h4 at i;split at i
    ·rename_i c;cases i;exact⟨_,⟨c,bo⟩,f⟩
    grind
   ·obtain⟨w,i,f⟩:=b;unfold eJ at i;split at i
    ·rename_i c;cases i;exact⟨_,⟨c,bo⟩,f⟩
    grind
   ·simp only[l0,cg];exact⟨_,⟨trivial,bo⟩,b⟩
   ·simp only[l0,cg];exact⟨_,⟨trivial,bo⟩,b⟩
   ·simp only[l0,cg];exact⟨_,⟨trivial,bo⟩,b⟩
   ·simp only[l0,cg];exact⟨_,⟨trivial,bo⟩,b⟩
   exact b.elim
  split at b
  ·obtain⟨w,i,f⟩:=b;unfold h4 at i;split at i
   ·rename_i c;cases i;exact⟨_,⟨c,bo⟩,f⟩
   grind
  ·obtain⟨w,i,f⟩:=b;unfold eJ at i;split at i
   ·rename_i c;cases i;exact⟨_,⟨c,bo⟩,f⟩
   grind
  exact b.elim
 ·rename_i r m;simp only[gY];split at b
  case h_2=>exact b.elim
  rename_i q m h;rw[h];exact⟨_,bo,b⟩
 ·rename_i U x m;simp only[gY,CX];split at b
  case h_2=>exact b.elim
  rename_i T q a3 m ao o h;rw[ao,o,h];exact⟨_,bo,b⟩
 ·rename_i m;simp only[gY,vQ];split at b
  case h_2=>exact b.elim
  rename_i E g m h;rw[h];obtain⟨j,rfl,f⟩:=b;exact⟨j,bo,f⟩
 ·rename_i r m S;simp only[gY,vA];split at b
  case h_2=>exact b.elim
  rename_i k q S ao o;rw[ao,o];simp only;split at b
  ·rename_i E g D h;rw[h];simp only;cases d:a9 k g with
   |false=>rw[d] at b;exact b.elim
   |true=>
   rw[d] at b;obtain⟨j,c,f⟩:=b;exact⟨j,c,f⟩
  ·rename_i id B h;rw[h];simp only;split at b
   case h_2=>exact b.elim
   rename_i t n;rw[n];simp only;split at b
   case h_2=>exact b.elim
   rename_i g p;rw[p];simp only;cases d:a9 k g with
   |false=>rw[d] at b;exact b.elim
   |true=>
   rw[d] at b;obtain⟨j,c,f⟩:=b;obtain⟨D,N,c⟩:=eL.1 c;obtain⟨u,v⟩:=OW c;exact⟨(D,j),⟨iO N,u,v⟩,f⟩
  ·rename_i id ap am h;rw[h];simp only;split at b
   case h_2=>exact b.elim
   rename_i t n;obtain⟨bs,m⟩:=t;rw[n];simp only at b|-;split at b
   case h_2=>exact b.elim
   rename_i g;simp only[fb];cases d:a9 k g with
   |false=>rw[d] at b;exact b.elim
   |true=>
   rw[d] at b;obtain⟨q,an,f⟩:=b;obtain⟨u,v⟩:=OW an;exact⟨(m,q),⟨⟨bo,bo⟩,u,v⟩,f⟩
  exact b.elim
 ·rename_i r m;simp only[gY,vI];split at b
  case h_2=>exact b.elim
  rename_i k ao;rw[ao];simp only;split at b
  ·rename_i id B h;rw[h];simp only;split at b
   case h_2=>exact b.elim
   rename_i t n;rw[n];simp only;split at b
   case h_2=>exact b.elim
   rename_i g p;rw[p];simp only[v2];cases d:(a9 k g&&g.pure) with
   |false=>rw[d] at b;exact b.elim
   |true=>
   rw[d] at b;simp only[cE] at d;rw[d.1,d.2];obtain⟨j,c,f⟩:=b;exact⟨j,iO c,f⟩
  ·rename_i id B h;rw[h];simp only;split at b
   case h_2=>exact b.elim
   rename_i t n;rw[n];simp only;split at b
   case h_2=>exact b.elim
   rename_i g p;rw[p];simp only[v2];cases d:(a9 k g&&g.pure) with
   |false=>rw[d] at b;exact b.elim
   |true=>
   rw[d] at b;simp only[cE] at d;rw[d.1,d.2];obtain⟨j,c,f⟩:=b;exact⟨j,iO c,f⟩
  ·rename_i E g m h;rw[h];cases d:a9 k g with
   |false=>rw[d] at b;exact b.elim
   |true=>
   rw[d] at b;obtain⟨j,rfl,f⟩:=b;simp only[d,bH];exact f
  exact b.elim
 ·rename_i r m O;simp only[gY,vu];split at b
  case h_2=>exact b.elim
  rename_i k E g m ao h;rw[ao,h];cases d:(a9 k g&&(fA g O).isSome) with
  |false=>rw[d] at b;exact b.elim
  |true=>
  rw[d] at b;simp only[cE] at d;obtain⟨j,rfl,f⟩:=b;obtain⟨bl,R⟩:=Ol (y:=j) d.2;simp only[R] at f;simp only[d.1,bH,R];exact f
 ·rename_i r m ap am;simp only[gY,wi];split at b
  case h_2=>exact b.elim
  rename_i k ao;rw[ao];simp only;split at b
  ·rename_i E g D h;rw[h];simp only;cases d:a9 k g with
   |false=>rw[d] at b;exact b.elim
   |true=>
   rw[d] at b;obtain⟨j,c,f⟩:=b;obtain⟨A,L,c⟩:=eL.1 c;obtain⟨x,J,c⟩:=eL.1 c;obtain⟨av,M,rfl⟩:=fl.1 c;obtain⟨u,v⟩:=Ph M;exact⟨(A,x),⟨CR L,CR J,u,v⟩,f⟩
  ·rename_i id B h;rw[h];simp only;split at b
   case h_2=>exact b.elim
   rename_i t n;rw[n];simp only;split at b
   case h_2=>exact b.elim
   rename_i g p;rw[p];simp only;cases d:a9 k g with
   |false=>rw[d] at b;exact b.elim
   |true=>
   rw[d] at b;obtain⟨j,c,f⟩:=b;obtain⟨D,N,c⟩:=eL.1 c;obtain⟨A,L,c⟩:=eL.1 c;obtain⟨x,J,c⟩:=eL.1 c;obtain⟨av,M,c⟩:=eL.1 c;obtain⟨nh,a1,rfl⟩:=fl.1 c;obtain⟨u,v⟩:=Ph M;exact⟨(D,A,x),⟨iO N,CR L,CR J,u,v⟩,f⟩
  exact b.elim
 ·rename_i r A G;simp only[gY,vK];split at b
  case h_2=>exact b.elim
  rename_i k g ao o s;rw[ao,o,s];simp only;split at b
  case h_2=>exact b.elim
  rename_i w q A T G z C H;rw[z,C,H];simp only;cases d:(a9 k g&&b3 g.size 2000) with
  |false=>rw[d] at b;exact b.elim
  |true=>
  rw[d] at b;obtain⟨j,c,f⟩:=b;unfold fj at c;split at c
  ·rename_i I;cases c;exact⟨(A.toNat,G.toNat),⟨(aoq I.1).symm,(aoq (Int.le_trans I.1 I.2.1)).symm,aa,aa⟩,f⟩
  grind
 ·rename_i r m S;simp only[gY,Gj];split at b
  ·rename_i U q O ao o s;rw[ao,o,s];obtain⟨F,d,f⟩:=b;exact⟨F,d,f⟩
  ·rename_i U q O ao o s;rw[ao,o,s];obtain⟨F,d,f⟩:=b;exact⟨F,d,f⟩
  exact b.elim
 ·rename_i r m q a4;simp only[gY,vJ];split at b
  case h_2=>exact b.elim
  rename_i k id B q ao o s;rw[ao,o,s];simp only;split at b
  case h_2=>exact b.elim
  rename_i t n;rw[n];simp only;split at b
  case h_2=>exact b.elim
  rename_i g p;rw[p];simp only;split at b
  case h_2=>exact b.elim
  rename_i w i;rw[i];simp only;cases d:a9 k g with
  |false=>rw[d] at b;exact b.elim
  |true=>
  rw[d] at b;obtain⟨j,c,f⟩:=b;exact⟨j,iO c,f⟩
 ·rename_i G;simp only[gY];split at b
  ·rename_i m r ao o s;rw[ao,o,s];simp only;split at b
   ·rename_i k id B z C;rw[z,C];simp only[vG,z];split at b
    case h_2=>exact b.elim
    rename_i t n;rw[n];simp only;split at b
    case h_2=>exact b.elim
    rename_i g p;rw[p];obtain⟨j,c,f⟩:=b;exact⟨j,iO c,f⟩
   ·rename_i id B z C;rw[z,C];simp only[vN];split at b
    case h_2=>exact b.elim
    rename_i k t H n;rw[H,n];simp only;split at b
    case h_2=>exact b.elim
    rename_i g p;rw[p];obtain⟨j,c,f⟩:=b;exact⟨j,iO c,f⟩
   exact b.elim
  exact b.elim
 exact b.elim
def j8 {e:Type} (c d:bn e) (a b:X):bn e:=c.take a++(d.take (b-a)++c.drop (a+min d.length (b-a)))
end
section
def AV:al->bA
 |.val _ _=>bp
 |_=>br
def Je:al->bA
 |.val _ _=>bp
 |.da _ a=>a.all AV
 |_=>br
theorem Jf (b:Je d=bp):∀id∈d.ids,False:=by
 intro id c;cases d with
 |val f e=>grind [bT]
 |da g a=>
  have b:a.all AV=bp:=b;have:∀a:bn al,a.all AV=bp->∀id∈akV a,False:=by
   intro a
   induction a with
   |nil=>grind [akV]
   |cons d a h=>
    intro b id c;simp only[r5,cE] at b;simp only[akV,ha] at c;rcases c with c|c
    ·cases d with
     |val f e=>grind [bT]
     |_=>cases b.1
    grind
  exact this a b id c
 |_=>cases b
def pz (C:eW) (c:bn (X×al)):Prop:=
 (∀a,C.I0 a\/C.B a->a<C.w0.heap.size/\¬C.F0 a)/\
 ∀b∈c,b.1∈C.pin/\Je b.2=bp/\cQ (bb C.I0 C.B) C.w0 [] (λ_=>[]) (λ_=>[]) b.2 (C.vs b.1)
section
variable {E:fk} {C:eW}
def pz.nil (b:∀a,C.I0 a\/C.B a->a<C.w0.heap.size/\¬C.F0 a):pz C []:=⟨b,λc b=>by cases b⟩
theorem XB (c b:bn (X×al)) (a:X):gt (c++b) a=match aq c a with|some d=>d|none=>gt b a:=by grind [kV,aq,gt]
theorem AZ {e:Type}:∀{c:bn (X×e)} {b:X} {d:e},aq c b=Y d->(b,d)∈c
 |[],_,_,a=>by cases a
 |(f,v0)::c,b,d,a=>by
  rw[de] at a;split at a
  ·grind
  exact g3 _ (AZ a)
def gC.kg (f:pz C T) {j:ajR} (n:gC C i j v):gC C ⟨T++i.g,i.h⟩ j v:=by
 obtain⟨k,w,m,b⟩:=n;refine⟨k,w,m,{b with tmp:=λc=>?_}⟩;show cQ _ _ _ _ _ (gt (T++i.g) c) _;rw[XB];split
 ·rename_i l s;obtain⟨o,p,d⟩:=f.2 _ (AZ s);have d:cQ (bb C.I0 C.B) C.w0 [] (λ_=>[]) (λ_=>[]) l (C.vs c):=d;rw[b.pin c o];refine d.tu (λt a e=>?_) (λid r=>(Jf p id r).elim);have q:C.I0 a\/C.B a:=m8 e;obtain⟨ay,u⟩:=f.1 a q;refine⟨?_,ano (b.frame a ay u)⟩;cases t
  ·exact b.i0 a e
  exact e.imp (b.i0 a) id
 exact b.tmp c
def J.kg {d:bn (X×al)} (k:pz C d) {c:Code} {a:aO} {b:b6->aO->Prop} (f:J E C c ⟨d++a.g,a.h⟩ b):J E C c a b:=
 λe l i j=>f e l (i.kg k) j
def tc (a:bn (X×al)):ajZ->bw (bn (X×al))
 |[]=>Y []
 |k::c=>match gt a k with
  |.val g f=>(tc a c).map λb=>(k,.val g f)::b
  |.da e d=>bif d.all AV then(tc a c).map λb=>(k,.da e d)::b else bq
  |_=>bq
theorem I6 {h:bn (X×al)}:∀{g:ajZ} {d:bn (X×al)},tc h g=Y d->∀b∈d,b.1∈g/\Je b.2=bp/\gt h b.1=b.2
 |[],d,c,b,a=>by cases c;cases a
 |k::g,d,c,b,a=>by
  simp only[tc] at c;split at c
  ·rename_i q p f;obtain⟨n,e,rfl⟩:=fl.1 c;rcases fG.1 a with rfl|a
   ·exact⟨mr ..,bo,f⟩
   obtain⟨j,l⟩:=I6 e b a;grind
  ·rename_i o m f;cases i:m.all AV with
   |false=>grind
   |true=>
   rw[i] at c;obtain⟨n,e,rfl⟩:=fl.1 c;rcases fG.1 a with rfl|a
   ·exact⟨mr ..,i,f⟩
   obtain⟨j,l⟩:=I6 e b a;grind
  grind
theorem J.keep {K:Code} {H:bn (X×al)} (r:pz C T) (ap:tc i.g f=Y H) (l:∀k:eW,k.n=C.n->k.pin=f++C.pin->pz k (H++T)->(∀t,uy C t->uy k t)->(lA E C.I0 C.w0->lA E k.I0 k.w0)->J E k K i z):J E C K i z:=by
 rintro u I ⟨y,M,A,b⟩ ad
 let k:eW:={I0:=y,B:=C.B,F0:=λa=>∃id d,aq i.h id=Y d/\a∈A id,w0:=I,n:=C.n,pin:=f++C.pin,vs:=λq=>u.tmps.getD q bW}
 have U:cM k i u.tmps I y M A:=
  {n:=b.n,i0:=λ_ l=>l,i1:=λ_ l=>.inl l,ib:=b.ib,tree:=λid d j=>⟨(b.tree id d j).1,(b.tree id d j).2.1,λa c=>⟨((b.tree id d j).2.2 a c).1,((b.tree id d j).2.2 a c).2.1,((b.tree id d j).2.2 a c).2.2.1,.inr ⟨id,d,j,c⟩⟩⟩,dis:=b.dis,tmp:=b.tmp,frame:=λ_ _ _=>rfl,evo:=λ_ _=>.refl _ _,size:=bd _,os:=rfl,tape:=rfl,output:=rfl,pin:=λq _=>rfl}
 have an:pz k (H++T):=by
  refine⟨λa c=>⟨b.ib a c,?_⟩,λw p=>?_⟩
  ·rintro⟨id,d,j,V⟩;obtain⟨ay,x,_⟩:=(b.tree id d j).2.2 a V;grind
  rcases ha.1 p with p|p
  ·obtain⟨m,o,D⟩:=I6 ap w p;refine⟨ha.2 (.inl m),o,?_⟩;have:=b.tmp w.1;rw[D] at this;exact this.tu (λL a s=>⟨s,cp _ _⟩) (λid F=>(Jf o id F).elim)
  obtain⟨m,o,D⟩:=r.2 w p;refine⟨ha.2 (.inr m),o,?_⟩;show cQ _ _ _ _ _ _ (u.tmps.getD w.1 bW);rw[b.pin _ m];refine D.tu (λL a s=>?_) (λid F=>(Jf o id F).elim);obtain⟨ay,x⟩:=r.1 a (m8 s);refine⟨?_,ano (b.frame a ay x)⟩;cases L
  ·exact b.i0 a s
  exact s.imp (b.i0 a) id
 have a0:∀t,uy C t->uy k t:=by
  rintro(_|⟨q,dg,ds⟩) av
  ·trivial
  obtain⟨N,O,a,a1,cv,ce,P,ci,d0,co⟩:=av;refine⟨lD _ N,λv G=>lD _ (O v G),a,a1,cv,(b.pin q N).trans ce,iT P b.size,?_,?_,?_⟩
  ·rintro⟨id,d,j,c⟩;rcases((b.tree id d j).2.2 a c).2.2.2 with m|m
   ·omega
   grind
  ·have c:=b.frame a P ci;grind [block,ak6]
  rw[co];exact ju λv G=>(b.pin v (O v G)).symm
 refine wp_mono (l k bo rfl an a0 (λS=>b.glob r.1 S) u I ⟨y,M,A,U⟩ ad) ?_;rintro c2 c1 d1 ⟨cs,p,⟨Q,bx,R,e⟩,am⟩;have dl:∀a,k.F0 a->C.w0.heap.size<=a\/C.F0 a:=(by rintro a ⟨id,d,j,c⟩;exact((b.tree id d j).2.2 a c).2.2.2);refine⟨cs,p,⟨Q,bx,R,?_⟩,am⟩;refine{n:=e.n,i0:=λa c=>e.i0 a (b.i0 a c),i1:=λa c=>?_,ib:=e.ib,tree:=λid d j=>?_,dis:=e.dis,tmp:=e.tmp,frame:=λa m o=>?_,evo:=λa c=>(b.evo a c).trans (e.evo a (iT c b.size)),size:=di b.size e.size,os:=e.os.trans b.os,tape:=e.tape.trans b.tape,output:=e.output.trans b.output,pin:=λq r=>?_}
 ·rcases e.i1 a c with l|l|l
  ·exact b.i1 a l
  ·exact .inr (.inl (di b.size l))
  grind
 ·obtain⟨ay,x,a3⟩:=e.tree id d j;refine⟨ay,x,λa c=>?_⟩;obtain⟨a4,bl,bs,aL⟩:=a3 a c;refine⟨a4,bl,bs,?_⟩;rcases aL with l|l
  ·exact .inl (di b.size l)
  grind
 ·refine(e.frame a (iT m b.size) ?_).trans (b.frame a m o);grind
 rw[e.pin q (ha.2 (.inr r))];exact b.pin q r
end
end
structure cI where
 d:bw (X×al)
 S:ajZ
 keep:bn (X×bn aZ)
 put:bn (X×aK)
variable{q:cI}
def nK (a:ajZ) (c:bn (X×bn aZ)) (b:bn (X×al)):bn (X×al):=match a with
 |[]=>b
 |_=>akh a c b
def q6 (a:ajZ) (b:bn (X×aK)):bn (X×aK):=match a with
 |[]=>b
 |_=>del a b
def cI.app (a:cI) (b:aO):aO:=⟨match a.d with
 |some c=>c::nK a.S a.keep b.g
 |none=>nK a.S a.keep b.g,a.put++q6 a.S b.h⟩
theorem X4 (b:bn (X×bn aZ)) (a:al):fC [] b a=a:=by
 have c:∀a,e5 [] b a=a:=λa=>(by have:(a.ids.any λd=>eQ d [])=br:=(by grind [anp,eQ]);simp only[e5,akc,this,aor,bR]);cases a with
 |e6 e=>grind [akt,anq,fC]
 |_=>exact c _
theorem X9 (c:bn (X×bn aZ)):∀b:bn (X×al),akh [] c b=b
 |[]=>rfl
 |(k,a)::b=>by simp_all [hX,X4,akh]
theorem Wa:∀a:bn (X×aK),del [] a=a
 |[]=>rfl
 |x::a=>by simp_all [pD,ax,eQ,del]
theorem td (a:ajZ) (c:bn (X×bn aZ)) (b:bn (X×al)):nK a c b=akh a c b:=by
 cases a
 ·exact(X9 c b).symm
 rfl
theorem xW (a:ajZ) (b:bn (X×aK)):q6 a b=del a b:=by
 cases a
 ·exact(Wa b).symm
 rfl
def rL {k:Type} (tt:bn (bG×ai)) (f:bn (X×aK)) (m:bG) (q v:al) (e:cI->bw k):bw k:=
 match rF f q with
 |none=>bq
 |some (
  id,p)=>match aq f id,aq tt m with
  |some a,Y o=>match fb a.1 p with
   |none=>bq
   |some b=>bif a9 o b then match v with
    |.ref c g=>match aq f c with
     |some l=>bif bI id c then bq else(hT l.1 l.2 g b).bind λh=>(mL a.1 a.2 p b h).bind λd=>e ⟨bq,[id,c],[(id,p)],[(id,⟨a.1,d⟩)]⟩
     |none=>bq
    |.app c g i j n=>match hS (τ:=.osl i) b j with
     |some _=>bif bI c id&&l8 g p then(hT a.1 a.2 p (.osl i)).bind λr=>(mL a.1 a.2 p (.osl i) (r++j)).bind λd=>e ⟨bq,id::n,[(id,p)],[(id,⟨a.1,d⟩)]⟩ else bq
     |none=>bq
    |v=>match coe b v with
     |some h=>(mL a.1 a.2 p b h).bind λd=>e ⟨bq,[id],[(id,p)],[(id,⟨a.1,d⟩)]⟩
     |none=>bq
   else bq
  |_,_=>bq
theorem aeX {q:b} {n:cI->bw b} {tt:bn (bG×ai)} (a:rL tt i.h c t d n=Y q) (k:∀o,n o=Y q->u (o.app i)):(Gi tt i c t d).K u:=by
 unfold rL at a;unfold Gi;split at a
 ·cases a
 rename_i id A v;rw[v];simp only;split at a
 case h_2=>cases a
 rename_i F B w r;obtain⟨O,M⟩:=F;rw[w,r];simp only at a|-;split at a
 ·cases a
 rename_i D z;rw[z];simp only;cases s:a9 B D with
 |false=>grind
 |true=>
 rw[s] at a;simp only[bH] at a|-;split at a
 ·rename_i l p;split at a
  case h_2=>cases a
  rename_i E x;obtain⟨P,J⟩:=E;cases e:bI id l with
  |true=>grind
  |false=>
  rw[e] at a;obtain⟨m,f,a⟩:=eL.1 a;obtain⟨j,g,a⟩:=eL.1 a;simp only[x,e,bR];exact⟨(m,j),⟨iO f,nc g⟩,k _ a⟩
 ·rename_i l p N L I;split at a
  case h_2=>cases a
  rename_i m f;cases kv f;cases e:(bI l id&&l8 p A) with
  |false=>grind
  |true=>
  rw[e] at a;simp only[cE] at e;obtain⟨C,y,a⟩:=eL.1 a;obtain⟨j,g,a⟩:=eL.1 a;simp only[ak7];exact⟨(C,j),⟨ff e.1,l8.ok e.2,iO y,nc g⟩,k _ a⟩
 rename_i d G H;split at a
 case h_2=>cases a
 rename_i m f;obtain⟨j,g,a⟩:=eL.1 a;split
 ·grind
 ·grind
 rw[f];exact⟨j,nc g,k _ a⟩
def lz (e:bn (X×aK)) (a:ai) (i:al):bw (bn a.den):=
 match i with
 |.val (.a6 _ h) d=>hS (τ:=.osl h) (.osl a) d
 |.dd (.slice bq 0 0)=>Y []
 |.ref id c=>match aq e id with
  |some b=>bif a.pure then hT b.1 b.2 c (.osl a) else bq
  |none=>bq
 |.view id c g f=>match aq e id with
  |some b=>bif a.pure then(hT b.1 b.2 c (.osl a)).bind λd=>Y ((d.take f).drop g) else bq
  |none=>bq
 |_=>bq
def lZ.GC {c:ai} (e:lZ c) (b:bn c.den):Prop:=
 match e with
 |.eV f=>f=b
 |.part _ g d=>∃a,g a/\d a=b
 |.bad=>b7
theorem Ca {f:bn k.den} (a:lz e k d=Y f):(rU e k d).GC f:=by
 unfold lz at a;unfold rU;split at a
 ·rename_i p q h;cases kv a;simp only[ak7];rfl
 ·cases a;rfl
 ·rename_i id j;split at a
  case h_2=>cases a
  rename_i g c;obtain⟨m,l⟩:=g;simp only[c];cases b:k.pure with
  |false=>grind
  |true=>rw[b] at a;exact⟨f,iO a,bo⟩
 ·rename_i id j o n;split at a
  case h_2=>cases a
  rename_i g c;obtain⟨m,l⟩:=g;simp only[c];cases b:k.pure with
  |false=>grind
  |true=>
   rw[b] at a;obtain⟨h,i,a⟩:=eL.1 a;cases a;exact⟨h,iO i,bo⟩
 grind
def lZ.GC.to {d:ai} {c:lZ d} {a:bn d.den} (b:c.GC a) {g:X->Prop} {f:bn d.den->aO} {e:aO->Prop} (h:g a.length) (i:e (f a)):(c.to g f).K e:=by
 cases c with
 |eV l=>obtain rfl:l=a:=b;exact⟨(),h,i⟩
 |part n o m=>obtain⟨k,j,rfl⟩:=b;exact⟨k,⟨j,h⟩,i⟩
 |bad=>exact b.elim
def o4 {n:Type} (tt:bn (bG×ai)) (p:bn (X×ai)) (d:bn (X×aK)) (b:X) (o:bG) (q g:al) (f:cI->bw n):bw n:=
 match gR tt o with
 |none=>bq
 |some i=>
  match q with
  |.ref id []=>match aq d id with
   |some ⟨.osl a,e⟩=>bif a9 i a&&b3 a.size 1300 then
    match a.pure with
    |true=>(lz d a g).bind λc=>(bh (e.length+c.length)).bind λ_=>f ⟨Y (b,.ref b []),[id,b],[],[(b,⟨.osl a,e++c⟩)]⟩
    |false=>match g with
     |.ref k []=>match aq d k with
      |some r=>match hS (.osl a) r.2 with
       |some c=>bif bI id k then bq else(bh (e.length+cA (α:=a.den) c)).bind λ_=>f ⟨Y (b,.ref b []),[id,k,b],[],[(b,⟨.osl a,List.append (α:=a.den) e c⟩)]⟩
       |none=>bq
      |none=>bq
     |_=>bq
    else bq
   |_=>bq
  |.ref id h=>match aq d id,aq d b with
   |some j,bq=>match fb j.1 h with
    |some (.osl a)=>bif a9 i a&&b3 a.size 1300&&a.kW then
     (hT j.1 j.2 h (.osl a)).bind λe=>(lz d a g).bind λc=>(bh (cA (α:=a.den) e+c.length)).bind λ_=>
      f ⟨Y (b,.app id h a c [b]),[id],[(id,h),(id,[])],[(b,⟨.eB,()⟩),(id,j)]⟩
     else bq
    |_=>bq
   |_,_=>bq
  |.view id [] m l=>match aq d id with
   |some ⟨.osl a,e⟩=>bif a9 i a&&b3 a.size 1300 then
    (lz d a g).bind λc=>(bh (cA (α:=a.den) ((e.take l).drop m)+c.length)).bind λ_=>f ⟨Y (b,.ref b []),[id,b],[],[(b,⟨.osl a,(e.take l).drop m++c⟩)]⟩
    else bq
   |_=>bq
  |.dd (.slice bq 0 0)=>match aq p b with
   |some (.osl a)=>bif a9 i a&&b3 a.size 1300 then
    (lz d a g).bind λc=>(bh c.length).bind λ_=>f ⟨Y (b,.ref b []),[b],[],[(b,⟨.osl a,c⟩)]⟩
    else bq
   |_=>bq
  |_=>bq
theorem UP {A:b} {w:cI->bw b} {tt:bn (bG×ai)} (e:o4 tt l i.h a c d t w=Y A) (m:∀x,w x=Y A->u (x.app i)):(CG tt l i a c d t).K u:=by
 unfold o4 at e;unfold CG;split at e
 ·cases e
 rename_i s F;rw[F];simp only;split at e
 ·rename_i id;simp only;split at e
  case h_2=>cases e
  rename_i j v n;rw[n];simp only;cases k:(a9 s j&&b3 j.size 1300) with
  |false=>grind
  |true=>
  rw[k] at e;simp only[bH] at e|-;split at e
  ·rename_i q;rw[q];obtain⟨p,f,e⟩:=eL.1 e;obtain⟨_,g,e⟩:=eL.1 e;exact(Ca f).to (yi g) (m _ e)
  rename_i q;rw[q];split at e
  case h_2=>cases e
  rename_i H;split at e
  case h_2=>cases e
  rename_i M E;obtain⟨V,R⟩:=M;split at e
  case h_2=>cases e
  rename_i p f;cases kv f;cases y:bI id H with
  |true=>grind
  |false=>
  rw[y] at e;obtain⟨_,g,e⟩:=eL.1 e;simp only[E,ak7,y,bR];exact⟨(),yi g,m _ e⟩
 ·rename_i id z q;split at e
  case h_2=>cases e
  rename_i L n D;obtain⟨U,S⟩:=L;simp only at e;split at e
  case h_2=>cases e
  rename_i j G;cases k:(a9 s j&&b3 j.size 1300&&j.kW) with
  |false=>grind
  |true=>
  rw[k] at e;obtain⟨v,r,e⟩:=eL.1 e;obtain⟨p,f,e⟩:=eL.1 e;obtain⟨_,g,e⟩:=eL.1 e;have g:=yi g;have f:=Ca f;have r:=iO r;cases z with
  |nil=>grind
  |cons Q z=>
  simp only[n,D,G,k,bH];split
  ·rename_i J o;rw[o] at f;obtain rfl:J=p:=f;exact⟨v,⟨r,g⟩,m _ e⟩
  ·rename_i T ad N o;rw[o] at f;obtain⟨I,B,rfl⟩:=f;exact⟨(v,I),⟨r,B,g⟩,m _ e⟩
  rename_i o;rw[o] at f;exact f.elim
 ·rename_i id P O;simp only;split at e
  case h_2=>cases e
  rename_i j v n;rw[n];simp only;cases k:(a9 s j&&b3 j.size 1300) with
  |false=>grind
  |true=>
  rw[k] at e;simp only[bH] at e|-;obtain⟨p,f,e⟩:=eL.1 e;obtain⟨_,g,e⟩:=eL.1 e;exact(Ca f).to (yi g) (m _ e)
 ·simp only;split at e
  case h_2=>cases e
  rename_i j C;rw[C];simp only;cases k:(a9 s j&&b3 j.size 1300) with
  |false=>grind
  |true=>
  rw[k] at e;simp only[bH] at e|-;obtain⟨p,f,e⟩:=eL.1 e;obtain⟨_,g,e⟩:=eL.1 e;exact(Ca f).to (yi g) (m _ e)
 grind
def pS (d:bn (X×ai)) (c:bn (X×aK)) (a:X) (h:al):bw cI:=
 match h with
 |.ref id []=>match aq c id with
  |some b=>Y ⟨Y (a,.ref a []),[id,a],[],[(a,b)]⟩
  |none=>bq
 |.ref id g=>bif bI id a then bq else Y ⟨Y (a,.ref id g),[a],[],[]⟩
 |.view id [] f e=>match aq c id with
  |some ⟨.osl b,i⟩=>Y ⟨Y (a,.ref a []),[id,a],[],[(a,⟨.osl b,(i.take e).drop f⟩)]⟩
  |_=>bq
 |.dd (.slice bq 0 0)=>match aq d a with
  |some (.osl b)=>Y ⟨Y (a,.ref a []),[a],[],[(a,⟨.osl b,[]⟩)]⟩
  |_=>bq
 |_=>bq
theorem U0 (b:pS l i.h a d=Y q) (e:u (q.app i)):(CI l i a d).K u:=by
 unfold pS at b;unfold CI;split at b
 ·split at b
  ·rename_i j c;cases b;simp only[c];exact e
  grind
 ·rename_i id g k;cases f:bI id a with
  |true=>grind
  |false=>
  rw[f] at b;cases b;cases g with
  |nil=>grind
  |cons m g=>simp only[f,bR];exact e
 ·split at b
  ·rename_i j n c;cases b;simp only[c];exact e
  grind
 ·split at b
  ·rename_i j c;cases b;simp only[c];exact e
  grind
 grind
section
section
variable {E:fk} {C:eW} {st:aO} {a:Act} {w w':bD} {I:X->Prop} {rt:X->ajT} {fp:X->ajZ} {o:bS} {Q:aO->Prop}
def eX.own {S:ajZ} {t:aK} {cs:ajT} {f:ajZ} {v:Value} {next:Act->bD->Prop} {u:b6->Act->bD->Prop} (A:o.dst=Y m) (F:C.ok m) (l:cM C st a.tmps w I rt fp) (J:∀r k w',Q r->k.defers=a.defers->gC C r k.tmps w'->next k w') (D:m∈S\/aq st.h m=bq) (M:(bO a.eval o).run E.P w=.ok (.value v) w') (c:hl w w') (N:v=cV t.1 cs) (L:aT (bb I C.B) w' t.1 cs t.2 f) (G:f.Nodup) (i:∀b∈f,(w.heap.size<=b/\b<w'.heap.size)\/∃q∈S,∃R,aq st.h q=Y R/\b∈fp q) (K:Q ⟨(m,.ref m [])::akh S [] st.g,(m,t)::del S st.h⟩):o.wp E.P a w next u:=by
 have j:=l.eI (ns.one (st:=st) (C:=C) (rt:=rt) (w':=w') (I':=I) (S:=S) (d:=m) (t:=t) (cs:=cs) (f:=f) D c.size c.os c.tape c.output (λb i _=>c.heap b i) (λb i=>(ano (c.heap b i)).2) (λ_ e=>e) (λ_ e=>.inl e) L G (λb z=>by
  rcases i b z with⟨x,y⟩|⟨p,H,s,j,n⟩
  ·exact⟨λe=>by have:=l.ib b (.inl e);omega,y,.inl x⟩
  obtain⟨ay,T,O,U⟩:=(l.tree p s j).2.2 b n;exact⟨ay,iT O c.size,.inr ⟨p,H,s,j,n⟩⟩))
 unfold aj9;rw[M];show next (a.put o.dst v) w'
 rw[A];refine J _ _ _ K bo ⟨_,_,_,j.put F (av:=.ref m []) ?_⟩;rw[N];refine .ref (t:=t) (loc:=bq) (by rw[kV,de,ax bo];rfl) ?_;rw[Fj];exact alv
def yE (e:bn (X×aK)) (a:ai):al->bw (aK×ajZ)
 |.val d b=>bif a9 a d then Y (⟨d,b⟩,[]) else bq
 |.dd f=>match iM a f.cells.toList with
  |some b=>Y (⟨a,b⟩,[])
  |none=>bq
 |.ref id []=>match aq e id with
  |some c=>bif a9 a c.1 then Y (c,[id]) else bq
  |none=>bq
 |_=>bq
theorem Ri (l:∀id t,aq e id=Y t->aT U w t.1 (rt id) t.2 (fp id)) {a:ai} (i:e9 p a c) (h:cQ U w e rt fp d S) {t:aK} {ids:ajZ} (b:yE e a d=Y (t,ids)):aT U w t.1 S.cells.toList t.2 (ids.map fp).flatten/\t.1.size=a.size/\∀id∈ids,∃o,aq e id=Y o:=by
 unfold yE at b;split at b
 ·rename_i r q;cases f:a9 a r with
  |false=>grind
  |true=>
   rw[f] at b;cases b;cases h with|val g=>
   rw[oL (i.lay f) g.len g.one];grind [anr]
 ·rename_i u;split at b
  ·rename_i q s;cases b;cases h;grind [pV]
  grind
 ·rename_i id;split at b
  ·rename_i n j;cases f:a9 a n.1 with
   |false=>grind
   |true=>
    rw[f] at b;cases b;cases h with|ref k m=>
    rw[j] at k;cases k;obtain⟨rfl,rfl,rfl⟩:=ako.1 m;have g:=l id _ j;rw[oL (i.lay f) g.len g.one];grind [cB,anr]
  grind
 grind
def m9 (e:bn (X×aK)) (d:bP->al) (g:bn (X×bP)):ai->X->bw (aK×ajZ)
 |.pr a h,f=>
  match(match l9 g f with
   |none=>match mi a with
    |some i=>Y ((⟨a,i⟩:aK),([]:ajZ))
    |none=>bq
   |some b=>yE e a (d b)),m9 e d g h (f+1) with
  |some b,Y c=>Y (⟨.pr b.1.1 c.1.1,(b.1.2,c.1.2)⟩,b.2++c.2)
  |_,_=>bq
 |.nil,_=>Y (⟨.nil,()⟩,[])
 |_,_=>bq
theorem PN {p:b1} {g:dh->X->Prop} {b:bn (X×aK)} (z:∀id t,aq b id=Y t->aT g w t.1 (rt id) t.2 (fp id)) {m:bP->al} {h:bP->Value} (y:∀c,cQ g w b rt fp (m c) (h c)) {parts:bn (X×bP)} {cells:ajT}:∀{u:ai} {n:X} {r:bn akl} {off:X} {zs:ajT} {t:aK} {ids:ajZ},iD p u r off zs->m9 b m parts u n=Y (t,ids)->cells.length=off+u.size->(∀d k e,fA u d=Y (k,e)->(∀c,l9 parts (n+d)=Y c->(h c).cells.size=e.size/\(cells.drop (off+fi u d)).take e.size=(h c).cells.toList)/\(l9 parts (n+d)=bq->(cells.drop (off+fi u d)).take e.size=(zs.drop (fi u d)).take e.size))->aT g w t.1 (cells.drop off) t.2 (ids.map fp).flatten/\t.1.size=u.size/\∀id∈ids,∃u,aq b id=Y u
 |.pr a q,n,E::O,off,zs,t,ids,o,f,A,i=>by
  simp only[m9] at f;split at f
  case h_2=>cases f
  rename_i c l j C;cases f;obtain⟨F,s,G,⟨K,R,ay,M,N⟩,v⟩:=o;have x:=i 0 _ a bo;simp only[mV,fi,mT] at x;have H:aT g w c.1.1 ((cells.drop off).take a.size) c.1.2 (c.2.map fp).flatten/\c.1.1.size=a.size/\∀id∈c.2,∃u,aq b id=Y u:=by
   split at j
   ·rename_i J;split at j
    ·rename_i S D;cases j;obtain⟨L,T,P,Q,_,aL⟩:=wv s D;grind
    grind
   grind [Ri]
  have I:=PN z y (parts:=parts) (cells:=cells) (u:=q) (n:=n+1) (off:=off+a.size) (zs:=zs.drop a.size) (t:=l.1) (ids:=l.2) v C (by grind [akm]) (by
   intro d k e B;have:=i (d+1) (.snd::k) e (by simp[fA,B]);grind [alL,fi])
  refine⟨⟨(c.2.map fp).flatten,(l.2.map fp).flatten,ac,?_,?_⟩,by grind [akm],?_⟩
  ·grind
  ·simp_all
  grind
 |.nil,n,[],off,zs,t,ids,o,f,A,i=>by cases f;exact⟨⟨bo,by grind [List.drop_eq_nil_iff,akm]⟩,bo,ac⟩
 |.pr _ _,_,[],_,_,_,_,b,_,_,_=>b.elim
 |.nil,_,_::_,_,_,_,_,b,_,_,_=>b.elim
 |.int _,_,_,_,_,_,_,b,_,_,_=>by cases b
 |.bool,_,_,_,_,_,_,b,_,_,_=>by cases b
 |.str,_,_,_,_,_,_,b,_,_,_=>by cases b
 |.a6 _ _,_,_,_,_,_,_,b,_,_,_=>by cases b
 |.osl _,_,_,_,_,_,_,b,_,_,_=>by cases b
 |.ptr _ _,_,_,_,_,_,_,b,_,_,_=>by cases b
 |.optr _,_,_,_,_,_,_,b,_,_,_=>by cases b
 |.st _,_,_,_,_,_,_,b,_,_,_=>by cases b
 |.eB,_,_,_,_,_,_,b,_,_,_=>by cases b
theorem PO {z:b1} {h:dh->X->Prop} {b:bn (X×aK)} (l:∀id t,aq b id=Y t->aT h w t.1 (rt id) t.2 (fp id)) {j:bP->al} {i:bP->Value} (k:∀e,cQ h w b rt fp (j e) (i e)) {q:bn (X×bP)}:∀{u:ai} {n:X} {B:bn akl} {p:X} {y:ajT} {t:aK} {ids:ajZ},iD z u B p y->m9 b j q u n=Y (t,ids)->∀d s g,fA u d=Y (s,g)->∀e,l9 q (n+d)=Y e->(i e).cells.size=g.size
 |.pr a A,n,I::P,p,y,t,ids,E,f,d,s,g,c,e,m=>by
  simp only[m9] at f;split at f
  case h_2=>cases f
  rename_i v x o G;obtain⟨J,C,K,⟨L,Q,ay,N,O⟩,D⟩:=E;cases d with
  |zero=>
   simp only[fA,eT,h8] at c;obtain⟨_,rfl⟩:=c;rw[mV] at m;rw[m] at o;obtain⟨H,M,_⟩:=Ri (t:=v.1) (ids:=v.2) l C (k e) o;have:=H.len;grind
  |succ d=>
   simp only[fA] at c;split at c
   ·rename_i r F;simp only[eT,h8] at c;obtain⟨_,rfl⟩:=c;exact PO l k (u:=A) (n:=n+1) (t:=x.1) (ids:=x.2) D G d r.1 r.2 F e (by rwa[(aa:n+1+d=n+(d+1))])
   grind
 |.pr _ _,_,[],_,_,_,_,b,_,_,_,_,_,_,_=>b.elim
 |.nil,_,_,_,_,_,_,_,_,_,_,_,c,_,_=>by cases c
 |.int _,_,_,_,_,_,_,b,_,_,_,_,_,_,_=>by cases b
 |.bool,_,_,_,_,_,_,b,_,_,_,_,_,_,_=>by cases b
 |.str,_,_,_,_,_,_,b,_,_,_,_,_,_,_=>by cases b
 |.a6 _ _,_,_,_,_,_,_,b,_,_,_,_,_,_,_=>by cases b
 |.osl _,_,_,_,_,_,_,b,_,_,_,_,_,_,_=>by cases b
 |.ptr _ _,_,_,_,_,_,_,b,_,_,_,_,_,_,_=>by cases b
 |.optr _,_,_,_,_,_,_,b,_,_,_,_,_,_,_=>by cases b
 |.st _,_,_,_,_,_,_,b,_,_,_,_,_,_,_=>by cases b
 |.eB,_,_,_,_,_,_,b,_,_,_,_,_,_,_=>by cases b
theorem Vo (av:o.op=.build c s) {J:ai} (D:lI E.tt c=Y J) (dl:a9 J k=bp\/J=k) (R:mF s.toList 0=bp) (A:∀d∈s.toList,cf d.1 (gA k)=bp) (O:∀e l b,fA k e=Y (l,b)->∀f,l9 s.toList e=Y f->(a.eval f).cells.size=b.size):∃h g p,iD E.P k h 0 g/\(bO a.eval o).run E.P w=.ok (.value (.agg p)) w/\p.toList.length=k.size/\(∀e l b,fA k e=Y (l,b)->(∀f,l9 s.toList (0+e)=Y f->(a.eval f).cells.size=b.size/\(p.toList.drop (0+fi k e)).take b.size=(a.eval f).cells.toList)/\(l9 s.toList (0+e)=bq->(p.toList.drop (0+fi k e)).take b.size=(g.drop (fi k e)).take b.size)):=by
 obtain⟨m,h,g,S,cv,T,U,q,c1⟩:∃m h g,E.P.info? c=some m/\m.size=k.size/\m.zero=some (.agg g)/\E.P.underlying c=some (.struct h)/\iD E.P k h.toList 0 g.toList/\g.size=k.size:=by
  unfold lI at D;split at D
  ·rename_i d9 ad;cases D;obtain⟨_,m,h,g,ay,d0,_,d1,d2,d3,d4⟩:=E.ok c _ ad;grind [anr,iD.lay]
  grind
 have F:=run_places (P:=E.P) w k h.toList 0 g.toList q;simp only[mW] at F;generalize dg:((bL (gA k)).map λn=>(fi k n,match fA k n with|some d=>d.2.size|none=>0))=H at F;have v:∀n l b,fA k n=Y (l,b)->n<gA k->H.toArray[n]?=Y (fi k n,b.size):=(by grind);obtain⟨p,bx,d5,ce,aL⟩:=AK (λm=>H.toArray[m]?) (s.toList.map λd=>(d.1,a.eval d.2)) g (by
  intro d x;obtain⟨j,B,rfl⟩:=fe.1 x;have t:j.1<gA k:=gL (A j B);obtain⟨l,b,i⟩:=rA q j.1 t;refine⟨_,_,v _ _ _ i t,O _ _ _ i j.2 ?_,by simp_all [x3]⟩;grind [IX]) (by
  rw[qE];refine(IY R).imp_of_mem ?_;intro d I x a3 t bs ci ds d6 ao L;have z:d.1<gA k:=gL (A d x);have Q:I.1<gA k:=gL (A I a3);obtain⟨co,cs,r⟩:=rA q d.1 z;obtain⟨d7,d8,N⟩:=rA q I.1 Q;rw[v _ _ _ r z] at ao;rw[v _ _ _ N Q] at L;cases ao;cases L;exact .inl (vv r N t))
 have a4:p.toList.length=k.size:=(by grind);refine⟨h.toList,g.toList,p,q,?_,a4,?_⟩
 ·have a1:(aml (λf=>(f.fst,a.eval f.snd)) s).toList=s.toList.map λd=>(d.1,a.eval d.2):=ac;have a0:(h.mapM λM=>do ak5 (M.offset,<-akK M.type):Sem (bU et)).run E.P w=.ok H.toArray w:=by
   rw[anb,Sem.run_map,F];rfl
  have G:(akg c).run E.P w=.ok (.agg g) w:=(by simp[akg,akr,S,T]);simp only[bO,av,Instr.build,bY,G,b8 U,b2,a0,a1,Value.cells,bx];rfl
 intro e l b i;have am:e<gA k:=IC i;simp only[mW];have c2:=x3 i;refine⟨λf C=>?_,λC=>?_⟩
 ·have an:=AY C;have G:=O e l b i f C;refine⟨G,?_⟩;apply il;intro y;rcases cR y b.size with u|u
  ·obtain⟨K,bl⟩:∃K,(a.eval f).cells[y]?=some K:=⟨_,Cb aa⟩;have:=aL (e,a.eval f) (fe.2 ⟨(e,f),an,bo⟩) _ _ (v _ _ _ i am) y K bl;grind
  grind
 apply il;intro y;rcases cR y b.size with u|u
 ·rw[sb u,sb u,qB,qB];simp only[Cc];refine ce _ ?_;intro d x bs ci ao;obtain⟨j,B,rfl⟩:=fe.1 x;have ap:=Jk C j B;have z:j.1<gA k:=gL (A j B);obtain⟨co,cs,r⟩:=rA q j.1 z;rw[v _ _ _ r z] at ao;cases ao;rcases Nat.lt_or_gt_of_ne ap with t|V
  ·have:=vv r i t;omega
  have:=vv i r V;omega
 grind
theorem cM.IF {t:ajR} (d:cM C st t w I rt fp):∀{a:ajZ},a.Nodup->(∀id∈a,∃b,aq st.h id=Y b)->(a.map fp).flatten.Nodup
 |[],_,_=>by simp
 |i::a,r,e=>by obtain⟨k,l⟩:=kp.1 r;obtain⟨b,f⟩:=e i ac;simp only[hX,lV];refine ji.2 ⟨(d.tree i b f).2.1,cM.IF d l (λid x=>e id (by grind)),λj m v o c=>?_⟩;subst c;obtain⟨y,q,n⟩:=lX.1 o;obtain⟨g,p,rfl⟩:=fe.1 q;obtain⟨u,s⟩:=e g (by grind);exact d.dis i g b u f s (λc=>k (c▸p)) j m n
theorem Y0 (a:m∈(f.map fp).flatten):∃id∈f,m∈fp id:=by grind
def sp {k:Type} (tt:bn (bG×ai)) (m:bn (X×ai)) (e:bn (X×aK)) (h:bP->al) (a:X) (l:bG) (c:bn (X×bP)) (g:cI->bw k):bw k:=
 match lI tt l with
 |none=>bq
 |some f=>match aq m a with
  |some (.st j)=>bif a9 f j&&(mF c 0&&c.all (λi=>cf i.1 (gA j))) then match aq e a,m9 e h c j 0 with
   |none,Y (b,d)=>bif jA d then g ⟨Y (a,.ref a []),d,[],[(a,⟨.st b.1,b.2⟩)]⟩ else bq
   |_,_=>bq
   else bq
  |_=>bif mF c 0&&c.all (λi=>cf i.1 (gA f)) then match qb h c f 0 with
   |some b=>g ⟨Y (a,.val (.st b.1) b.2),[],[],[]⟩
   |none=>match aq e a,m9 e h c f 0 with
    |none,Y (b,d)=>bif jA d then g ⟨Y (a,.ref a []),d,[],[(a,⟨.st b.1,b.2⟩)]⟩ else bq
    |_,_=>bq
   else bq
theorem MM {F:b} {u:cI->bw b} (U:o.op=.build c s) (O:o.dst=Y m) (P:C.ok m) {r:ai} (y:lI E.tt c=Y r) (D:a9 r k=bp\/r=k) (q:(mF s.toList 0&&s.toList.all (λp=>cf p.1 (gA k)))=bp) (i:(match aq st.h m,m9 st.h (aU st.g) s.toList k 0 with
  |none,Y (d,e)=>bif jA e then u ⟨Y (m,.ref m []),e,[],[(m,⟨.st d.1,d.2⟩)]⟩ else bq
  |_,_=>bq)=Y F)
 (V:∀v,u v=Y F->Q (v.app st)):eX E C o st Q:=by
 split at i
 case h_2=>cases i
 rename_i d e R n;cases A:jA e with
 |false=>grind
 |true=>
 rw[A] at i;simp only[cE,gU] at q;obtain⟨H,J⟩:=q;rintro a w ⟨I,rt,fp,j⟩ next a1 T
 have z:∀id d,aq st.h id=Y d->aT (bb I C.B) w d.1 (rt id) d.2 (fp id):=λid d n=>(j.tree id d n).1;obtain⟨K,av,G,M,ad,bs,N⟩:=Vo (a:=a) (w:=w) U y D H J (by
  obtain⟨K,av,_,p⟩:=lI.ok y;intro an ap a0 am l bl;exact PO z (λl=>j.aU l) (D.elim (λi=>iD.lay i p) (λi=>i▸p)) n an ap a0 am l (by rwa[mW]))
 obtain⟨x,a4,L⟩:=PN z (λl=>j.aU l) (cells:=G.toList) M n aa N;rw[mT] at x;refine eX.own (S:=e) (t:=⟨.st d.1,d.2⟩) (cs:=G.toList) (f:=(e.map fp).flatten) O P j T (.inr R) ad (hl.refl w) rfl x (j.IF (jA.ok A) L) (λa3 q=>?_) ?_
 ·grind
 have:=V _ i;rw[show(cI.mk (Y (m,.ref m [])) e [] [(m,⟨.st d.1,d.2⟩)]).app st=⟨(m,.ref m [])::akh e [] st.g,(m,⟨.st d.1,d.2⟩)::del e st.h⟩ by
  show aO.mk ((m,_)::nK e [] st.g) ([_]++q6 e st.h)=_;rw[td,xW];rfl] at this
 omega
theorem Ve {t:b} {q:cI->bw b} (k:o.op=.build c s) (i:o.dst=Y m) (j:C.ok m) (a:sp E.tt l st.h (aU st.g) m c s.toList q=Y t) (n:∀r,q r=Y t->Q (r.app st)):eX E C o st Q:=by
 unfold sp at a;split at a
 ·cases a
 rename_i u e;split at a
 ·rename_i v x;cases d:(a9 u v&&(mF s.toList 0&&s.toList.all (λp=>cf p.1 (gA v)))) with
  |false=>grind
  |true=>
  rw[d] at a;simp only[bH] at a;have f:=d;rw[cE] at f;exact MM k i j e (.inl f.1) f.2 a n
 cases d:(mF s.toList 0&&s.toList.all (λp=>cf p.1 (gA u))) with
 |false=>grind
 |true=>
 rw[d] at a;simp only[bH] at a;split at a
 ·rename_i y w;refine akM (an:=[]) i j ?_;rw[k];simp only[gY,zF,e,d,bH,w];exact n _ a
 exact MM k i j e (.inr bo) d a n
def uI {i:Type} (tt:bn (bG×ai)) (f:bn (X×ai)) (g:bn (X×aK)) (a:X) (j:bG) (d:al) (b:cI->bw i):bw i:=
 match aq tt j,aq g a with
 |some h,bq=>match d with
  |.val e d=>bif a9 h e then match aq f a with
   |some (.ptr .be _)=>b ⟨Y (a,.val (.ptr .be e) (Y d)),[],[],[]⟩
   |_=>b ⟨Y (a,.ref a []),[],[],[(a,⟨.optr e,d⟩)]⟩
   else bq
  |.ref id []=>match aq g id with
   |some c=>bif a9 h c.1 then match aq f a with
    |some (.ptr .be _)=>bif oT c.1 then b ⟨Y (a,.hz (.ref id [])),[],[],[]⟩ else bq
    |_=>b ⟨Y (a,.ref a []),[id],[],[(a,⟨.optr c.1,c.2⟩)]⟩
    else bq
   |none=>bq
  |_=>bq
 |_,_=>bq
theorem Vh {dl:b} {ce:cI->bw b} (O:o.op=.box c n) (M:o.dst=Y m) (N:C.ok m) (e:uI E.tt l st.h m c (aU st.g n) ce=Y dl) (P:∀cv,ce cv=Y dl->Q (cv.app st)):eX E C o st Q:=by
 unfold uI at e;split at e
 case h_2=>cases e
 rename_i r L c2;split at e
 ·rename_i ad d0 z;cases i:a9 r ad with
  |false=>grind
  |true=>
  rw[i] at e;simp only[bH] at e;split at e
  ·rintro a w ⟨I,rt,fp,j⟩ next ci F
   have p:=j.aU n;rw[z] at p;have A:=(E.ok c r L).lay i;generalize H:a.eval n=K at p;cases p with|val U=>
   rename_i V;have u:∀s d,bb I C.B s d->c6 w (w.alloc (.cells V.toArray c)) d:=λs d i=>.of_heap ((akN w _).heap d (j.ib d (m8 i)));have bl:Yields E C st a w I rt fp o (λy J=>Q ⟨(m,y)::st.g,J++st.h⟩):=by
    refine⟨.pointer (Y ⟨w.heap.size,0,bq⟩),w.alloc (.cells V.toArray c),λd=>I d\/d=w.heap.size,λ_=>[],λ_=>[],.val (.ptr .be ad) (Y d0),[],?_,akN w _,λ_ e=>.inl e,?_,.nil,?_,P _ e⟩
    ·simp[bO,O,H,amk,newVar,akD,oL A U.len U.one]
    ·rintro d (e|rfl)
     ·grind
     simp_all
    refine .val (τ:=.ptr .be ad) (x:=Y d0) (cs:=[.pointer (Y ⟨w.heap.size,0,bq⟩)]) ⟨bo,w.heap.size,0,V,bo,.inr bo,U.len,ans (λd4 K d2=>by grind),?_⟩;refine U.mono (λs d i=>⟨?_,u s d i⟩) ac;cases s
    ·exact .inl i
    exact i.imp .inl (λe=>e)
   exact bl.wp j M N (λy J am w' a1 ap a3=>F _ am w' a1 ap a3)
  refine akM (an:=[]) M N ?_;rw[O];simp only[gY,zG,L,c2,z,i,bH];exact P _ e
 ·rename_i id z;split at e
  case h_2=>cases e
  rename_i k R;cases i:a9 r k.1 with
  |false=>grind
  |true=>
  rw[i] at e;simp only[bH] at e;split at e
  ·cases a4:oT k.1 with
   |false=>rw[a4] at e;cases e
   |true=>
   rw[a4,bH] at e;rintro a w ⟨I,rt,fp,j⟩ next ci F
   have p:=j.aU n;rw[z] at p;obtain⟨q,ds,bx⟩:=j.tree id k R;have A:=(E.ok c r L).lay i;generalize H:a.eval n=K at p;have d3:=p;cases p with|ref G a0=>
   rw[R] at G;cases G;obtain⟨rfl,rfl,rfl⟩:=ako.1 a0;obtain⟨ao,d1⟩:=o9.one a4;have dg:=q.len;rw[ao] at dg;obtain⟨co,c1⟩:=sc.1 dg;have u:∀d,d<w.heap.size->c6 w (w.alloc (.cells (rt id).toArray c)) d:=λd i=>.of_heap ((akN w _).heap d i);have bl:Yields E C st a w I rt fp o (λy J=>Q ⟨(m,y)::st.g,J++st.h⟩):=by
    refine⟨.pointer (Y ⟨w.heap.size,0,bq⟩),w.alloc (.cells (rt id).toArray c),λd=>I d\/d=w.heap.size,rt,fp,.hz (.ref id []),[],?_,akN w _,λ_ e=>.inl e,?_,.nil,?_,P _ e⟩
    ·simp[bO,O,H,amk,newVar,akD,oL A q.len q.one]
    ·rintro d (e|rfl)
     ·exact .inl e
     exact .inr ⟨bd _,ac⟩
    have av:cQ (bb (λd=>I d\/d=w.heap.size) C.B) (w.alloc (.cells (rt id).toArray c)) ([]++st.h) (e8 [] rt rt) (e8 [] fp fp) (.ref id []) (cV k.1 (rt id)):=by
     refine d3.mono (λs d D=>⟨?_,u d (j.ib d (m8 D))⟩) (λbs r T=>⟨(j.tree bs r T).1,λd i=>u d ((j.tree bs r T).2.2 d i).2.2.1⟩) (λbs r T=>⟨T,bo,bo⟩);cases s
     ·exact .inl D
     exact D.imp .inl (λe=>e)
    rw[c1] at av|-;rw[d1] at av;refine .hz (v:=co) (.inr bo) ?_ (q.one co (by rw[c1];simp)) av;rw[World.cell?_alloc_new];rfl
   exact bl.wp j M N (λy J am w' a1 ap a3=>F _ am w' a1 ap a3)
  rintro a w ⟨I,rt,fp,j⟩ next ci F
  have p:=j.aU n;rw[z] at p;obtain⟨q,ds,bx⟩:=j.tree id k R;have A:=(E.ok c r L).lay i;generalize H:a.eval n=K at p;cases p with|ref G a0=>
  rw[R] at G;cases G;obtain⟨rfl,rfl,rfl⟩:=ako.1 a0;have u:∀d,d<w.heap.size->c6 w (w.alloc (.cells (rt id).toArray c)) d:=λd i=>.of_heap ((akN w _).heap d i);have d5:aT (bb I C.B) (w.alloc (.cells (rt id).toArray c)) k.1 (rt id) k.2 (fp id):=q.mono (λs d i=>⟨i,u d (j.ib d (m8 i))⟩) (λd i=>u d (bx d i).2.2.1);refine eX.own (S:=[id]) (t:=⟨.optr k.1,k.2⟩) (cs:=[.pointer (Y ⟨w.heap.size,0,bq⟩)]) (f:=w.heap.size::fp id) (v:=.pointer (Y ⟨w.heap.size,0,bq⟩)) (w':=w.alloc (.cells (rt id).toArray c)) M N j F (.inr c2) ?_ (akN w _) rfl ⟨w.heap.size,0,fp id,rt id,bo,bo,q.len,ans (λd4 K d2=>by grind),ant (by simp[q.len]),d5⟩ (kp.2 ⟨λD=>wP _ (bx _ D).2.2.1,ds⟩) ?_ ?_
  ·simp[bO,O,H,amk,newVar,akD,oL A q.len q.one]
  ·intro d i;rcases fG.1 i with rfl|i
   ·simp_all
   grind
  have:=P _ e;rw[show(cI.mk (Y (m,.ref m [])) [id] [] [(m,⟨.optr k.1,k.2⟩)]).app st=⟨(m,.ref m [])::akh [id] [] st.g,(m,⟨.optr k.1,k.2⟩)::del [id] st.h⟩ from rfl] at this;omega
 grind
def JM (a:ai) (b:al):bw a.den:=match a with
 |.osl _=>match b with
  |.dd (.slice bq 0 0)=>Y []
  |_=>bq
 |_=>bq
def Zq {w:bD} {rt:X->ajT} {fp:X->ajZ} (c:cQ U w e rt fp d S) {b:k.den} (a:JM k d=Y b):aT U w k S.cells.toList b []:=by
 unfold JM at a;split at a
 ·split at a
  ·cases a;cases c;exact⟨bq,0,bo,.inl ⟨bo,bo,bo,bo⟩⟩
  cases a
 cases a
def uL (c:bn (X×aK)) (b:ai) (x:al):bw (b.den×ajZ):=
 match x with
 |.ref id []=>match aq c id with
  |some d=>match hS b d.2 with
   |some a=>Y (a,[id])
   |none=>bq
  |none=>bq
 |x=>match coe b x with
  |some a=>Y (a,[])
  |none=>(JM b x).map λa=>(a,[])
def uM (b:bn (X×aK)) (a:ai):bn al->bw (bn a.den×ez)
 |[]=>Y ([],[])
 |x::e=>match uL b a x,uM b a e with
  |some d,Y c=>Y (d.1::c.1,d.2::c.2)
  |_,_=>bq
theorem VF (o:∀id k,aq e id=Y k->aT U w k.1 (rt id) k.2 (fp id)) (m:e9 E.P k c) (h:cQ U w e rt fp d S) {j:k.den} (a:uL e k d=Y (j,f)):aT U w k S.cells.toList j (f.map fp).flatten/\∀id∈f,∃s,aq e id=Y s:=by
 unfold uL at a;split at a
 ·rename_i id;split at a
  case h_2=>cases a
  rename_i t b;split at a
  case h_2=>cases a
  rename_i u q;cases a;obtain⟨x,d⟩:=t;have n:=kv q;cases n;cases h with|ref g p=>
  rw[b] at g;cases g;obtain⟨rfl,rfl,rfl⟩:=ako.1 p;have i:=o id _ b;rw[oL m i.len i.one];grind
 split at a
 ·grind [HA]
 obtain⟨v,r,l⟩:=fl.1 a;cases l;exact⟨Zq h r,ac⟩
theorem Nc {e:bn (X×aK)} {c:ai}:∀{b:bn al} {xs:bn c.den} {is:ez},uM e c b=Y (xs,is)->xs.length=b.length/\is.length=b.length/\∀(d:X) (h:c.den),xs[d]?=Y h->∃(y:al) (f:ajZ),b[d]?=Y y/\is[d]?=Y f/\uL e c y=Y (h,f)
 |[],xs,is,a=>by cases a;grind
 |y::b,xs,is,a=>by
  simp only[uM] at a;split at a
  ·rename_i n g m i;cases a;obtain⟨j,k,l⟩:=Nc (xs:=g.1) (is:=g.2) i;grind
  grind
def sr {i:Type} (tt:bn (bG×ai)) (k:bn (X×ai)) (f:bn (X×aK)) (e:bP->al) (a:X) (j:bG) (g:X) (c:bn (X×bP)) (d:cI->bw i):bw i:=
 match gR tt j,aq f a with
 |some h,bq=>
  match(match aq k a with|some (.osl t)=>t|_=>h) with
  |t=>bif a9 h t&&b3 t.size 2000&&b3 g 1000&&wd c 0&&bI c.length g then
   match zJ t (c.map λb=>e b.2) with
   |some l=>d ⟨Y (a,.ref a []),[],[],[(a,⟨.osl t,l⟩)]⟩
   |none=>match uM f t (c.map λb=>e b.2) with
    |some b=>bif jA b.2.flatten then d ⟨Y (a,.ref a []),b.2.flatten,[],[(a,⟨.osl t,b.1⟩)]⟩ else bq
    |none=>bq
  else bq
 |_,_=>bq
theorem Vl {d6:b} {bl:cI->bw b} {q:X} (dg:o.op=.buildSlice c m s) (co:o.dst=Y q) (cv:C.ok q) (j:sr E.tt l st.h (aU st.g) q c m s.toList bl=Y d6) (L:∀O,bl O=Y d6->Q (O.app st)):eX E C o st Q:=by
 unfold sr at j;split at j
 case h_2=>cases j
 rename_i r ci c1;generalize x:(match aq l q with|some (.osl d)=>d|_=>r)=d at j;simp only at j;cases i:(a9 r d&&b3 d.size 2000&&b3 m 1000&&wd s.toList 0&&bI s.toList.length m) with
 |false=>grind
 |true=>
 rw[i] at j;simp only[bH] at j;split at j
 ·rename_i z d2;refine akM (an:=l) co cv ?_;rw[dg];simp only[gY,xg,ci,c1];cases H:aq l q with
  |none=>
   rw[H] at x;simp only at x;subst x;simp only[i,bH,d2];exact L _ j
  |some k=>
   rw[H] at x;cases k<;>(simp only at x;subst x;simp only[i,bH,d2];exact L _ j)
 split at j
 case h_2=>cases j
 rename_i k ds;obtain⟨z,p⟩:=k;cases av:jA p.flatten with
 |false=>grind
 |true=>
 rw[av] at j;rintro a w ⟨I,rt,fp,D⟩ next gc f4
 have fs:∀id d,aq st.h id=Y d->aT (bb I C.B) w d.1 (rt id) d.2 (fp id):=λid d x=>(D.tree id d x).1;simp only[cE] at i;obtain⟨⟨⟨⟨ek,V⟩,ad⟩,N⟩,bs⟩:=i;have V:=gL V;have ad:=gL ad;have bs:s.toList.length=m:=ff bs;obtain⟨d4,U,_,eq,ex⟩:=gR.ok ci;have K:=ex.lay ek;obtain⟨a3,ge,d5,_⟩:=K.info;have hc:=K.pos;obtain⟨el,bx,ce⟩:=Nc ds;simp only[eM] at el bx;have f7:z.length=m:=aa;have gs:m*d.size<=16777216:=(by have:m*d.size<=1000*2000:=np ad V;omega);have am:∀(e:X) (k:X×bP),s.toList[e]?=Y k->∃(y:d.den) (u:ajZ),z[e]?=Y y/\p[e]?=Y u/\aT (bb I C.B) w d (a.eval k.2).cells.toList y (u.map fp).flatten/\∀id∈u,∃r,aq st.h id=Y r:=(by intro e k F;have f0:e<z.length:=(by grind);obtain⟨i3,u,ao,gf,R⟩:=ce e z[e] ac;rw[jI,F] at ao;simp only[jv,eT] at ao;subst ao;obtain⟨hs,hv⟩:=VF fs K (D.aU k.2) R;grind);have ap:∀id∈p.flatten,∃r,aq st.h id=Y r:=by
  intro id T;obtain⟨M,H,gl⟩:=lX.1 T;obtain⟨e,F,rfl⟩:=hG.1 H;have G:s.toList[e]?=Y (s.toList[e]'(by omega)):=bk _
  grind
 obtain⟨d3,fz,fT⟩:∃d8:ajR,(m*d.size=0->d8=#[])/\(m*d.size≠0->∃J,(akg U).run E.P w=.ok J w/\d8=J.cells):=by
  by_cases A:m*d.size=0
  ·simp_all
  obtain⟨J,_,f9⟩:=e9.IS K;exact⟨J.cells,λj=>absurd j A,λ_=>⟨J,by simp[akg,akr,d5.info,f9 a3 d5.info],bo⟩⟩
 obtain⟨a4,d7,is,ix,aL⟩:=AK (λa3=>Y (a3*d.size,d.size)) (s.toList.map λk=>(k.1,a.eval k.2)) ((Array.range (m*d.size)).map (d3[· %d3.size]!)) (by
  intro k L;obtain⟨io,f5,rfl⟩:=fe.1 L;obtain⟨e,F,rfl⟩:=hG.1 f5;have G:s.toList[e]?=Y s.toList[e]:=ac;obtain⟨y,_,_,_,a1,_⟩:=am e _ G;have O:=rI N e _ G;have:(e+1)*d.size<=m*d.size:=hR _ aa;rw[kq,jL] at this;refine⟨_,_,bo,by have:=a1.len;omega,?_⟩;grind) (by
  rw[hY];intro e M F H f0 ic i0 ii i1 ao R;simp only[n4,eT,h8] at ao R;simp only[eM] at F H;have em:=rI N e s.toList[e] ac;have f2:=rI N M s.toList[M] ac;obtain⟨rfl,rfl⟩:=ao;obtain⟨rfl,rfl⟩:=R;left;rw[em,f2];have:(0+e+1)*d.size<=(0+M)*d.size:=hR _ aa;grind)
 have hi:a4.size=m*d.size:=(by grind);have fn:∀n,n<w.heap.size->c6 w (w.alloc (.cells a4 U)) n:=λn i=>.of_heap ((akN w _).heap n i);have fr:(p.map λu=>(u.map fp).flatten).flatten=(p.flatten.map fp).flatten:=by
  clear am ap ce av j ds bx
  induction p with
  |nil=>rfl
  |cons y M hr=>grind
 have f1:∀n∈(p.flatten.map fp).flatten,n<w.heap.size/\∃id∈p.flatten,∃r,aq st.h id=Y r/\n∈fp id:=(by intro n i;obtain⟨id,T,i⟩:=Y0 i;obtain⟨r,a0⟩:=ap id T;exact⟨((D.tree id r a0).2.2 n i).2.2.1,id,T,r,a0,i⟩);refine eX.own (S:=p.flatten) (t:=⟨.osl d,z⟩) (cs:=[.slice (Y ⟨w.heap.size,0,bq⟩) m m]) (f:=w.heap.size::(p.flatten.map fp).flatten) (v:=.slice (Y ⟨w.heap.size,0,bq⟩) m m) (w':=w.alloc (.cells a4 U)) co cv D f4 (.inr c1) ?_ (akN w _) rfl ?_ (kp.2 ⟨λf3=>wP _ (f1 _ f3).1,D.IF (jA.ok av) ap⟩) ?_ ?_
 ·have f6:=K.sizeOf w;have gt:¬(16777216<m*d.size):=aa;have dl:(aml (λy=>(y.fst,a.eval y.snd)) s).toList=s.toList.map λk=>(k.1,a.eval k.2):=ac;simp only[bO,dg,Instr.buildSlice,bY,b8 eq,b2,f6];rw[aw aa];by_cases A:m*d.size=0
  ·rw[ax A];obtain rfl:=fz A;rw[dl];simp only[bY,ct,b2,d7,akD,newObj];rfl
  rw[aw A];obtain⟨J,f8,rfl⟩:=fT A;rw[dl];simp only[bY,ct,b2,f8,d7,akD,newObj];rfl
 ·refine⟨Y ⟨w.heap.size,0,bq⟩,m,by rw[f7],.inr ⟨w.heap.size,0,p.map λu=>(u.map fp).flatten,bo,by rw[fr],by grind,(by grind),ant aa,λe y gi a1 c2=>?_⟩⟩;have F:e<m:=(by grind);have G:s.toList[e]?=Y (s.toList[e]'(by omega)):=by simp
  obtain⟨i2,u,d1,ft,d0,a0⟩:=am e _ G;rw[a1] at d1;obtain rfl:=gb d1;rw[jI,ft] at c2;obtain rfl:=gb c2;refine⟨_,d0.len,ans (λd4 d9 go=>?_),d0.mono (λhw n i=>⟨i,fn n (D.ib n (m8 i))⟩) (λn i=>?_)⟩
  ·have:=aL (s.toList[e].1,a.eval s.toList[e].2) (fe.2 ⟨s.toList[e],cG _,bo⟩) _ _ rfl d4 d9 (by grind);have O:=rI N e _ G;grind
  grind
 ·intro n i;rcases fG.1 i with rfl|i
  ·exact .inl ⟨bd _,ac⟩
  grind
 have:=L _ j;rw[show(cI.mk (Y (q,.ref q [])) p.flatten [] [(q,⟨.osl d,z⟩)]).app st=⟨(q,.ref q [])::akh p.flatten [] st.g,(q,⟨.osl d,z⟩)::del p.flatten st.h⟩ by
  show aO.mk ((q,_)::nK _ [] st.g) ([_]++q6 _ st.h)=_;rw[td,xW];rfl] at this
 omega
end
end
section
def j0:ai->ai
 |.osl a=>.a6 .be (j0 a)
 |.st a=>.st (j0 a)
 |.pr b c=>.pr (j0 b) (j0 c)
 |.mp a=>.e1 .be a
 |τ=>τ
def rn:ai->bA
 |.osl a|.st a=>rn a
 |.pr b c=>rn b&&rn c
 |.optr _|.eB=>br
 |_=>bp
def rq:∀d:ai,(j0 d).den=d.den
 |.osl c=>b4 bn (rq c)
 |.st c=>rq c
 |.pr a b=>by show((j0 a).den×(j0 b).den)=(a.den×b.den);rw[rq a,rq b]
 |.int _|.bool|.str|.a6 _ _|.ptr _ _|.optr _|.nil|.eB|.mp _|.e1 _ _|.fn _ _=>rfl
def nF (a:ai) (b:a.den):(j0 a).den:=cast (rq a).symm b
def Vz {c:Type} (d:b=c) (e:bn b=bn c) (a:bn b):cast e a=a.map (cast d):=by subst d;show a=a.map (λf=>f);simp
theorem Hq {c C d:Type} (e:b=c) (g:C=d) (f:(b×C)=(c×d)) (a:b×C):cast f a=(cast e a.1,cast g a.2):=by grind
def Ow (a:ai) (b:bn a.den):(nF (.osl a) b:bn (j0 a).den)=b.map (nF a):=Vz (rq a).symm _ b
def Xj (a b:ai) (c:a.den×b.den):(nF (.pr a b) c:(j0 a).den×(j0 b).den)=(nF a c.1,nF b c.2):=Hq (rq a).symm (rq b).symm _ c
theorem s9:∀b:ai,(j0 b).size=b.size
 |.osl a=>rfl
 |.st a=>s9 a
 |.pr c d=>by simp only[j0,akm,s9 c,s9 d]
 |.int _|.bool|.str|.a6 _ _|.ptr _ _|.optr _|.nil|.eB|.mp _|.e1 _ _|.fn _ _=>rfl
theorem v7 {z q:dh->X->Prop} {w:bD} (i:∀c b,z c b->q c b):∀{τ:ai} {g:ajT} {e:τ.den} {h:ajZ},rn τ=bp->aT z w τ g e h->(∀b∈h,q .be b)->aT q w (j0 τ) g (nF τ e) []
 |.osl f,g,p,h,j,a,k=>by
  obtain⟨A,I,D,a⟩:=a;have E:(nF (.osl f) p:bn (j0 f).den).length=cA (α:=f.den) p:=(by rw[Ow];simp);rcases a with⟨rfl,T,rfl,rfl⟩|⟨b,P,B,rfl,rfl,o,v,C,x⟩
  ·refine⟨bo,bq,0,by rw[D,E],by grind,λ_=>rfl,.inl ?_⟩;grind
  refine⟨bo,_,I,by rw[D,E],aa,(λa=>by cases a),?_⟩;refine .inr ⟨b,P,bo,k b ac,λl e n=>?_⟩;rw[Ow] at n;have n:(List.map (nF f) p)[l]?=Y e:=n;rw[jI] at n;obtain⟨Q,F,rfl⟩:=fl.1 n;have U:l<cA (α:=f.den) p:=(hN.1 F).1;have M:B[l]?=Y (B[l]'(by omega)):=bk _
  obtain⟨u,r,s,t⟩:=x l Q _ F M;rw[s9];exact⟨u,r,s,v7 i j t (λm y=>k m (g3 _ (lX.2 ⟨_,cG _,y⟩)))⟩
 |.st f,g,e,h,j,a,k=>v7 (τ:=f) i j a k
 |.pr A b,g,e,h,j,a,k=>by
  simp only[rn,cE] at j;obtain⟨S,f2,rfl,o,v⟩:=a;have R:=Xj A b e;refine⟨[],[],bo,?_,?_⟩
  ·rw[s9];have:=v7 i j.1 o (λm y=>k m (by grind));grind
  rw[s9];have:=v7 i j.2 v (λm y=>k m (by grind));grind
 |.int O,g,e,h,_,a,_=>by obtain rfl:=akW (τ:=.int O) rfl a;exact a.mono (λc b d=>⟨i c b d,cp _ _⟩) ac
 |.bool,g,e,h,_,a,_=>by obtain rfl:=akW (τ:=.bool) rfl a;exact a.mono (λc b d=>⟨i c b d,cp _ _⟩) ac
 |.str,g,e,h,_,a,_=>by obtain rfl:=akW (τ:=.str) rfl a;exact a.mono (λc b d=>⟨i c b d,cp _ _⟩) ac
 |.a6 c f,g,e,h,_,a,_=>by obtain rfl:=akW (τ:=.a6 c f) rfl a;exact a.mono (λc b d=>⟨i c b d,cp _ _⟩) ac
 |.ptr c f,g,e,h,_,a,_=>by obtain rfl:=akW (τ:=.ptr c f) rfl a;exact a.mono (λc b d=>⟨i c b d,cp _ _⟩) ac
 |.nil,g,e,h,_,a,_=>by obtain rfl:=akW (τ:=.nil) rfl a;exact a.mono (λc b d=>⟨i c b d,cp _ _⟩) ac
 |.optr _,_,_,_,j,_,_=>by cases j
 |.e1 c f,g,e,h,_,a,_=>by obtain rfl:=akW (τ:=.e1 c f) rfl a;exact a.mono (λc b d=>⟨i c b d,cp _ _⟩) ac
 |.fn c f,g,e,h,_,a,_=>by obtain rfl:=akW (τ:=.fn c f) rfl a;exact a.mono (λc b d=>⟨i c b d,cp _ _⟩) ac
 |.mp f,g,e,h,_,a,k=>by
  cases e with
  |none=>exact⟨bo,a.2⟩
  |some G=>
   obtain⟨b,J,H,o,v,L,C,x,K⟩:=a;refine⟨b,J,H,o,bo,L,k b (by grind),C,x,λl G N=>?_⟩;obtain⟨u,r,s,t⟩:=K l G N;exact⟨u,r,s,t.mono (λc b d=>⟨i c b d,cp _ _⟩) ac⟩
 |.eB,_,_,_,j,_,_=>by cases j
def rp:aK->al
 |⟨.optr u,x⟩=>.val (.ptr .be (j0 u)) (Y (nF u x))
 |⟨a,x⟩=>.val (j0 a) (nF a x)
def II:ai->bA
 |.optr a=>rn a
 |τ=>rn τ
def gQ (c:bn (X×aK)) (b:ajZ) (a:al):al:=
 match a with
 |.ref id []=>bif eQ id b then match aq c id with
  |some d=>rp d
  |none=>.dead else .ref id []
 |a=>bif a.fc b then .dead else a
theorem mC (c:bn (X×aK)) (b:ajZ) (a:al):(∃id d,a=.ref id []/\id∈b/\aq c id=Y d/\gQ c b a=rp d)\/(gQ c b a=.dead/\a.fc b=bp)\/(gQ c b a=a/\a.fc b=br):=by
 have e:∀a:al,gQ c b a=(bif a.fc b then .dead else a)->(∃id d,a=.ref id []/\id∈b/\aq c id=Y d/\gQ c b a=rp d)\/(gQ c b a=.dead/\a.fc b=bp)\/(gQ c b a=a/\a.fc b=br):=(by grind);cases a with
 |ref id g=>
  cases g with
  |nil=>
   cases f:eQ id b with
   |true=>
    have i:(al.ref id []).fc b=bp:=(by simp[akc,bT,f]);cases h:aq c id with
    |none=>grind [gQ]
    |some d=>exact .inl ⟨id,d,bo,g8.1 f,h,by grind [gQ]⟩
   |false=>grind [gQ,akc,bT]
  |cons j g=>exact e _ rfl
 |_=>exact e _ rfl
def iv (c:bn (X×aK)) (b:ajZ):al->al
 |.e6 d=>.e6 (d.map (gQ c b))
 |a=>gQ c b a
theorem IH (b:∀a,d≠.e6 a):iv e f d=gQ e f d:=by
 cases d with
 |e6 a=>grind
 |_=>rfl
def s8 (a:ajZ) (st:aO):aO:=⟨st.g.map λb=>(b.1,iv st.h a b.2),del a st.h⟩
def IQ (c:al->al) (e:c .dead=.dead):∀(d:bn (X×al)) (b:X),gt (d.map λf=>(f.1,c f.2)) b=c (gt d b)
 |[],b=>e.symm
 |(g,a)::d,b=>by
  show gt ((g,c a)::_) b=_;rw[i4,i4];split
  ·rfl
  exact IQ c e d b
theorem EQ (a:ajZ) (st:aO) (b:X):gt (s8 a st).g b=iv st.h a (gt st.g b):=IQ (iv st.h a) rfl st.g b
def Xm (a:ajZ) (st:aO):aU (s8 a st).g=λb=>iv st.h a (aU st.g b):=by
 funext b;cases b with
 |tmp c=>exact EQ a st c
 |const d=>cases d<;>rfl
 |func e=>rfl
 |global f=>rfl
theorem Gt (b:d.fc f=br) (a:bn (X×bn aZ)):e5 f a d=d:=by grind [e5]
def afP {a:bn al} (b:(al.e6 a).fc f=br) (e:d∈a):d.fc f=br:=by unfold akc at b|-;rw[ud] at b|-;intro id h;obtain⟨c,g,rfl⟩:=hG.1 e;exact b id (al.A5 (l:=a) (i:=c) (bk g) h)
theorem Ls (b:d.fc f=br) (a:bn (X×bn aZ)):fC f a d=d:=by
 cases d with
 |e6 e=>
  simp only[fC];rw[ju (λd c=>Gt (afP b c) a),anq]
 |_=>exact Gt b a
theorem Xn (a:ajZ) (b:bn (X×bn aZ)) (c:aK):fC a b (rp c)=e5 a b (rp c):=by unfold rp;split<;>rfl
def y1 (a e:al):Prop:=a=.dead\/a=e\/∃b c,a=.e6 b/\e=.e6 c/\b.length=c.length/\∀(f:X) (d g:al),b[f]?=Y d->c[f]?=Y g->d=.dead\/d=g
section
variable {C:eW} {st:aO} {G:ajR} {w:bD}
theorem cM.freeze {e:X->ajT} (u:cM C st G w O e y) (T:∀id∈f,∃b,aq st.h id=Y b/\II b.1=bp):gC C (s8 f st) G w:=by
 have K:=u.eI (S:=f) (keep:=[]) (new:=[]) (rtn:=e) (fpn:=y) (w':=w) (I':=λa=>O a\/∃id∈f,∃b,aq st.h id=Y b/\a∈y id) ⟨bd _,bo,bo,bo,λ_ _ _=>rfl,λ_ _=>.refl _ _,λ_ c=>.inl c,λa c=>c.imp id λ⟨id,ad,b,s,l⟩=>
  ⟨((u.tree id b s).2.2 a l).2.2.1,.inr ⟨id,ad,b,s,l⟩⟩,(λ_ _ c=>by cases c),(λ_ _ _ _ c=>by cases c),(λ_ c=>by cases c),(λ_ c=>by cases c)⟩
 refine⟨_,_,_,{K with tmp:=λq=>?_}⟩;rw[EQ];have m:=u.tmp q;have p:=K.tmp q;rw[show gt (aO.mk (akh f [] st.g) ([]++del f st.h)).g q=fC f [] (gt st.g q) from p7 _ _ _ _] at p;generalize gt st.g q=j at m p;generalize G.getD q bW=i at m p;have E:∀(j:al) (i:Value),cQ (bb O C.B) w st.h e y j i->cQ (bb (λa=>O a\/∃id∈f,∃b,aq st.h id=Y b/\a∈y id) C.B) w ([]++del f st.h) (e8 [] e e) (e8 [] y y) (e5 f [] j) i->
  cQ (bb (λa=>O a\/∃id∈f,∃b,aq st.h id=Y b/\a∈y id) C.B) w ([]++del f st.h) (e8 [] e e) (e8 [] y y) (gQ st.h f j) i:=by
  intro j i m p;rcases mC st.h f j with⟨id,b,k,n,o,R⟩|⟨k,_⟩|⟨k,n⟩
  ·rw[R];rw[k] at m;cases m with|ref s am=>
   rw[o] at s;cases s;obtain⟨rfl,rfl,rfl⟩:=ako.1 am;obtain⟨cv,J,H⟩:=T id n;rw[o] at J;cases J;have F:∀v a,bb O C.B v a->bb (λa=>O a\/∃id∈f,∃b,aq st.h id=Y b/\a∈y id) C.B v a:=by
    intro v a l;cases v
    ·exact .inl l
    exact l.imp .inl (λc=>c)
   have I:=(u.tree id b o).1;have z:∀a∈y id,bb (λa=>O a\/∃id∈f,∃b,aq st.h id=Y b/\a∈y id) C.B .be a:=λa l=>.inr ⟨id,n,b,o,l⟩;obtain⟨d,t⟩:=b;by_cases an:∃r,d=.optr r
   ·obtain⟨r,rfl⟩:=an;obtain⟨a,A,bs,N,ao,a3,a4,P,bl,Q⟩:=I;show cQ _ _ _ _ _ (.val (.ptr .be (j0 r)) (Y (nF r t))) _;have ao:e id=[.pointer (Y ⟨a,A,bq⟩)]:=ao;rw[ao];refine .val (τ:=.ptr .be (j0 r)) (x:=Y (nF r t)) (cs:=[.pointer (Y ⟨a,A,bq⟩)]) ⟨bo,a,A,N,bo,z a (by grind),by grind [s9],P,v7 F H Q (λM bx=>z M (by grind))⟩
   have av:cV d (e id)=cV (j0 d) (e id):=(by cases d<;>rfl);have a0:rp ⟨d,t⟩=.val (j0 d) (nF d t):=by cases d<;>first|rfl|grind
   have ap:rn d=bp:=by cases d<;>first|exact H|grind
   rw[a0];show cQ _ _ _ _ _ _ (cV d (e id));rw[av];exact .val (v7 F ap I z)
  ·rw[k];exact .dead _
  grind [Gt]
 cases j with
 |e6 co=>
  cases m with|e6 ce U=>
  cases p with|e6 ci V=>
  refine .e6 (by grind) (λL a1 i k n=>?_);rw[jI] at k;obtain⟨D,o,rfl⟩:=fl.1 k;exact E D i (U L D i o n) (V L _ i (by grind) n)
 |_=>exact E _ _ m p
theorem gC.Pn (t:gC C st G w) (y:∀a,y1 (gt i.g a) (gt st.g a)) (J:∀id,aq i.h id=aq st.h id):gC C i G w:=by
 obtain⟨k,n,l,d⟩:=t;refine⟨k,n,l,{d with tree:=λid e p=>d.tree id e (by grind),dis:=λj D e F L M=>d.dis j D e F (by grind) (by grind),tmp:=λa=>?_}⟩;have P:∀(b:al) (f:Value),cQ (bb k C.B) w st.h n l b f->cQ (bb k C.B) w i.h n l b f:=λb f v=>
  v.tu (λO H x=>⟨x,cp _ _⟩) (λid _ e p=>⟨by grind,bo,bo,(d.tree id e p).1,λ_ _=>cp _ _⟩)
 have m:=d.tmp a;rcases y a with c|c|⟨N,E,ao,q,r,s⟩
 ·rw[c];exact .dead _
 ·grind
 rw[ao];rw[q] at m;generalize G.getD a bW=f at m;cases m with|e6 z K=>
 refine .e6 (r.trans z) (λj b f u I=>?_);obtain⟨o,A⟩:∃o,E[j]?=some o:=(by grind);rcases s j b o u A with c|c
 ·rw[c];exact .dead _
 grind
def gC.less (b:gC C st G w) (c:∀a,gt i.g a=.dead\/gt i.g a=gt st.g a) (d:∀id,aq i.h id=aq st.h id):gC C i G w:=
 b.Pn (λa=>(c a).imp id .inl) d
end
def rS:Op->bn bP
 |.build _ c=>c.toList.map (·.2)
 |.buildSlice _ _ c=>c.toList.map (·.2)
 |.store _ _ a=>[a]
 |.mapUpdate _ _ _ a=>[a]
 |.insert _ _ _ a=>[a]
 |.entryStore _ _ _ a=>[a]
 |.box _ a=>[a]
 |.assign a=>[a]
 |.call b=>match b.callee with
  |.value _=>b.args.toList
  |.builtin .append=>b.args.toList.drop 1
  |_=>[]
 |_=>[]
def vw (b:bS):X:=match b.dst with
 |some a=>a
 |none=>999999
def mD (a:aj1) (c:X) (b:bP->al):bn bP->ajZ
 |[]=>[]
 |x::d=>match b x with
  |.ref id []=>bif a.any (λe=>bI e.1 c&&bI e.2 id) then id::mD a c b d else mD a c b d
  |_=>mD a c b d
end
section
theorem HE {c d:bn b} (e:m<=a) (f:a<=c.length):(j8 c d m a).length=c.length:=by grind [akE,aki,anu,j8]
theorem Nl {d e:bn b} (f:a<=m) (g:m<=d.length) (c:X):(j8 d e a m)[c]?=if a<=c/\c<a+min e.length (m-a) then e[c-a]? else d[c]?:=by grind [j8]
def qT {k:Type} (tt:bn (bG×ai)) (d:bn (X×aK)) (f:X) (l:bG) (m j:al) (e:cI->bw k):bw k:=
 match gR tt l with
 |none=>bq
 |some i=>match m with
  |.ref id []=>match aq d id with
   |some ⟨.osl a,b⟩=>bif a9 i a&&bI a.size 1&&a.pure then
    (lz d a j).bind λc=>e ⟨Y (f,.val (.int .i64) ((min c.length (b.length-0):X):Z)),[id],[(id,[])],[(id,⟨.osl a,j8 b c 0 b.length⟩)]⟩
    else bq
   |_=>bq
  |.view id [] h g=>match aq d id with
   |some ⟨.osl a,b⟩=>bif a9 i a&&bI a.size 1&&a.pure then
    (lz d a j).bind λc=>e ⟨Y (f,.val (.int .i64) ((min c.length (g-h):X):Z)),[id],[(id,[])],[(id,⟨.osl a,j8 b c h g⟩)]⟩
    else bq
   |_=>bq
  |_=>bq
def cI.UV {b:bn (X×bn aZ)} {st:aO}:(cI.mk (Y (a,d)) f b e).app st=⟨(a,d)::akh f b st.g,e++del f st.h⟩:=by show aO.mk ((a,d)::nK f b st.g) (e++q6 f st.h)=_;rw[td,xW]
section
variable {E:fk} {C:eW} {st:aO} {a:Act} {w:bD} {I:X->Prop} {rt:X->ajT} {fp:X->ajZ} {o:bS}
def LF (e:cM C st a.tmps w I rt fp) {b:bn k.den} (c:lz st.h k (aU st.g n)=Y b):zu I C.B w k (a.eval n) b:=by
 refine wq e ?_;have:=Ca c;generalize rU st.h k (aU st.g n)=i at this;cases i with
 |eV l=>exact this.symm
 |part m o j=>obtain⟨f,d,rfl⟩:=this;exact⟨f,d,bo⟩
 |bad=>exact this.elim
theorem HD (ci:cM C st a.tmps w I rt fp) {el:b} {c2:cI->bw b} {y:X} (gl:o.op=.call {callee:=.builtin .copy,args:=#[n,N],argTypes:=#[c,r]}) (f6:o.dst=Y y) (f7:C.ok y) {next:Act->bD->Prop} {dl:b6->Act->bD->Prop} (gi:∀em a1 w',(∃s,c2 s=Y el/\em=s.app st)->a1.defers=a.defers->gC C em a1.tmps w'->next a1 w') (f3:gR E.tt c=Y Q) (gf:a9 Q k=bp) (G:k.size=1) (V:k.pure=bp) {id e:X} {j i:bn k.den} (am:aq st.h id=Y ⟨.osl k,j⟩) (bx:m<=e) (ce:e<=j.length) (hc:zu I C.B w k (a.eval N) i) {a3:bw Addr} {ds:X} (gs:a.eval n=.slice a3 (e-m) ds) (gt:e-m=0\/∃d p L,rt id=[.slice (Y ⟨d,p,bq⟩) j.length L]/\a3=Y ⟨d,p+m,bq⟩) (f0:c2 ⟨Y (y,.val (.int .i64) ((min i.length (e-m):X):Z)),[id],[(id,[])],[(id,⟨.osl k,j8 j i m e⟩)]⟩=Y el):o.wp E.P a w next dl:=by
 obtain⟨f,dg,ay,d5,fz⟩:=gR.ok f3;have fT:=fz.lay gf;obtain⟨mz,_,ap,_⟩:=fT.info;obtain⟨ex,ne,no⟩:=ci.tree id _ am;obtain⟨fn,i3,d1,hr,co,lk⟩:=hc;have d0:∀w':bD,w'.heap.size=w.heap.size->w'.os=w.os->w'.tape=w.tape->w'.output=w.output->(∀d,d∉fp id->w'.heap[d]?=w.heap[d]?)->(∀d,i6 w' d=i6 w d)->aT (bb I C.B) w' (.osl k) (rt id) (j8 j i m e) (fp id)->
  (Builtin.copy_ #[c,r] o.type #[a.eval n,a.eval N]).run E.P w=.ok (goInt ((min i.length (e-m):X):Z)) w'->o.wp E.P a w next dl:=by
  intro w' io is ix i0 i1 i2 nd ad;have ad:(bO a.eval o).run E.P w=.ok (.value (goInt ((min i.length (e-m):X):Z))) w':=(by simp only[bO,gl,akC,invoke,akU,bY,ct,b2,amr,hX,qD,ad]);have go:=ci.eI (S:=[id]) (keep:=[(id,[])]) (new:=[(id,⟨.osl k,j8 j i m e⟩)]) (rtn:=rt) (fpn:=fp) (w':=w') (I':=I)
   ⟨Nat.le_of_eq io.symm,is,ix,i0,λd lc f2=>i1 d (f2 id ac _ am),λd _=>.of_eq (i2 d),λ_ M=>M,λ_ M=>.inl M,(by
    intro f eq t;rw[de] at t;split at t
    ·grind
    ·cases t),(by
    intro f g nx n7 t cv lo;rw[de] at t cv;split at t
    ·split at cv
     ·omega
     cases cv
    ·cases t),(by
    intro s O eq an;simp only[fg] at O;subst O;have an:aq st.h id=Y eq:=an;rw[am] at an;obtain rfl:=gb an;exact⟨⟨.osl k,j8 j i m e⟩,by rw[de,ax bo],bo,bo,⟨_,bo⟩,λm2 _ _ _ T=>by grind [E4]⟩),(by
    grind [vj,cB])⟩
  unfold aj9;rw[ad];show next (a.put o.dst _) w'
  rw[f6];have V:=go.put f7 (av:=.val (.int .i64) ((min i.length (e-m):X):Z)) (v:=goInt ((min i.length (e-m):X):Z)) (.val (τ:=.int .i64) (cs:=[.int .i64 _]) ⟨bo,bo⟩);have hrel:gC C ((cI.mk (Y (y,.val (.int .i64) ((min i.length (e-m):X):Z))) [id] [(id,[])] [(id,⟨.osl k,j8 j i m e⟩)]).app st) (a.put (Y y) (goInt ((min i.length (e-m):X):Z))).tmps w':=(by rw[cI.UV];exact⟨I,_,_,V⟩);exact gi _ _ _ ⟨_,f0,bo⟩ rfl hrel
 have mo:Nat.min i.length (e-m)=min i.length (e-m):=rfl;by_cases T:min i.length (e-m)=0
 ·have le:j8 j i m e=j:=by
   apply il;intro f;rw[Nl bx ce,aw aa]
  refine d0 w bo rfl rfl rfl (λ_ _=>rfl) (λ_=>rfl) (by grind) ?_;rw[gs,hr,T];exact run_copy_none w c r o.type dg a3 fn _ _ _ _ d5 (by rw[ap.info];simp[ap.size,G]) aa
 rcases gt with lb|⟨d,p,L,d9,rfl⟩
 ·omega
 rw[d9] at ex;obtain⟨i8,kg,ao,ft⟩:=ex;simp only[hM,aj3,ca] at ao;obtain⟨rfl,_,rfl⟩:=ao;rcases ft with⟨a4,_⟩|⟨jp,m1,D,a4,d8,d2,d3,bs,d4⟩
 ·cases a4
 cases a4;have d3:j.length<=L:=d3;have d2:D.length=j.length:=d2;have gc:D.flatten=[]:=Iz (λbl R=>by
  obtain⟨f,t,rfl⟩:=hG.1 R;have mc:f<j.length:=aa;obtain⟨A,_,_,z⟩:=d4 f j[f] D[f] ac ac;exact z.pure V)
 rw[gc] at d8;obtain⟨c1,hw,ib,ic,ii⟩:=co.cells aa;rw[G,alw] at hw;have hi:i≠[]:=λs=>(by grind);obtain⟨a0,rfl⟩:∃a0,fn=some a0:=by
  rcases co.2 with M|⟨kd,m0,rfl,_⟩
  ·grind
  grind
 let l:=c1.take (min i.length (e-m))
 have f4:l.length=min i.length (e-m):=(by grind);have f5:∀g v,l[g]?=Y v->c1[g]?=Y v:=λg v q=>by
  rw[amh] at q;split at q
  ·exact q
  grind
 have d7:∀g,g<l.length->(w.cell? ⟨d,p+m+g,bq⟩).isSome=bp:=λg q=>(bs (p+m+g) aa (by grind)).1;have ad:=run_copy_cells (P:=E.P) w c r o.type dg d (p+m) (e-m) ds a0 i.length i3 l d5 (by rw[ap.info];simp[ap.size,G]) (by rw[f4]) (λg v q=>ic a0 bo hi g v (f5 g v q)) d7 (λg q=>(bs (p+m+g) aa (by grind)).2) (λv x=>ib v (Co x));have d6:d∈fp id:=(by grind);have f1:∀J u,bb I C.B J u->u≠d:=λJ u U s=>ci.notM am d d6 J (s▸U);refine d0 (w.setCells d (p+m) l) (tM d l _ w) (po d l _ w).1 (po d l _ w).2.1 (po d l _ w).2.2 (λu T=>yR d l _ w u (λs=>T (s▸d6))) (λu=>A3 _ _ _ _ _) ?_ ?_
 ·rw[d9,d8];refine⟨Y ⟨d,p,bq⟩,L,by rw[HE bx ce],.inr ⟨d,p,bJ j.length [],bo,by rw[Iz (λbl R=>List.eq_of_mem_replicate R)],by grind [HE],by grind [HE],?_,?_⟩⟩
  ·intro g hs hv;obtain⟨of,ol⟩:=bs g hs hv;grind [KY,anj]
  intro f K bl H R;have f9:bl=[]:=(by grind);subst f9;rw[Nl bx ce] at H;have ek:∀{A:ajT} {K:k.den},aT (bb I C.B) w k A K []->aT (bb I C.B) (w.setCells d (p+m) l) k A K []:=λF=>F.mono (λJ u U=>⟨U,rJ (f1 J u U)⟩) ac;split at H
  ·rename_i l2;have q:f-m<l.length:=aa;have ge:d1[f-m]?=Y []:=by
    have mp:f-m<d1.length:=(by rw[co.1];omega);grind [List.flatten_eq_nil_iff,b5,b0]
   have F:=ii (f-m) K [] H ge;rw[G,alw] at F;have f8:(c1.drop (f-m)).take 1=[l[f-m]]:=(by grind [alO]);rw[f8] at F;refine⟨[l[f-m]],by grind,?_,ek F⟩;intro g v x;cases g with
   |zero=>
    simp only[qA,eT] at x;subst x;have:=alW d l (p+m) w d7 (f-m) q;rw[<-this,G];congr 2;omega
   |succ g=>grind
  rename_i mt;have lt:f<j.length:=(hN.1 H).1;obtain⟨A,fr,fs,z⟩:=d4 f K (D[f]'(by omega)) H ac
  have O:D[f]'(by omega)=[]:=z.pure V
  rw[O] at z;refine⟨A,fr,?_,ek z⟩;intro g v x;have:=fs g v x;grind [amv,ak2]
 grind
theorem eX.copy {K:b} {F:cI->bw b} (A:o.op=.call {callee:=.builtin .copy,args:=#[n,N],argTypes:=#[c,r]}) (v:o.dst=Y m) (x:C.ok m) (d:qT E.tt st.h m c (aU st.g n) (aU st.g N) F=Y K):eX E C o st (λT=>∃J,F J=Y K/\T=J.app st):=by
 rintro a w ⟨I,rt,fp,f⟩ next am z
 have k:=f.aU n;unfold qT at d;split at d
 ·cases d
 rename_i L B;split at d
 ·rename_i id u;split at d
  case h_2=>cases d
  rename_i j M i;cases e:(a9 L j&&bI j.size 1&&j.pure) with
  |false=>grind
  |true=>
  rw[e] at d;simp only[cE] at e;obtain⟨V,q,d⟩:=eL.1 d;rw[u] at k;generalize p:a.eval n=U at k;cases k with|ref l y=>
  rw[i] at l;cases l;obtain⟨rfl,rfl,rfl⟩:=ako.1 y;have D:=(f.tree id _ i).1;obtain⟨G,H,ao,O⟩:=D;have Q:a.eval n=.slice G (M.length-0) H:=(by rw[p,ao];rfl);refine HD f A v x z B e.1.1 (ff e.1.2) e.2 i (c5 _) (bd _) (LF f q) Q ?_ d;grind
 ·rename_i id a3 av u;split at d
  case h_2=>cases d
  rename_i j M i;cases e:(a9 L j&&bI j.size 1&&j.pure) with
  |false=>grind
  |true=>
  rw[e] at d;simp only[cE] at e;obtain⟨V,q,d⟩:=eL.1 d;rw[u] at k;generalize p:a.eval n=U at k;cases k with|mg=>(exact HD f A v x z B e.1.1 (ff e.1.2) e.2 i (bd _) (c5 _) (LF f q) p (.inl bo) d)|view l y R S a0=>
  rw[i] at l;cases l;rename_i ad a4 an bl a1 H;obtain⟨s,_,t⟩:=ako.1 y;have s:ai.osl j=ai.osl ad:=s;cases s;have P:=ff e.1.2;have D:=(f.tree id _ i).1;obtain⟨G,ap,ao,O⟩:=D;rw[ao] at t;simp only[hM,aj3,ca] at t;obtain⟨rfl,rfl,rfl⟩:=t;refine HD f A v x z B e.1.1 P e.2 i R S (LF f q) p ?_ d;grind
 grind
end
end
section
def aX.cells {w q:bD} (e:∀a,q.cell? a=w.cell? a):∀{p:bn aZ} {τ r:ai} {m n:Loc} {f g:ajT},aX w τ m f p r n g->aX q τ m f p r n g
 |[],τ,_,_,_,_,_,c=>by cases τ<;>exact c
 |s::p,τ,r,m,n,f,g,c=>by
  have u:∀{b o:X} {d:ajT},fd w b o d->fd q b o d:=λy A C z=>(by rw[e];exact y A C z);cases τ<;>cases s<;>simp only[aX] at c
  case osl.idx t i=>
   obtain⟨b,o,B,v,d,h,j,k,l,x⟩:=c;exact⟨b,o,B,v,d,h,j,k,u l,x.cells e⟩
  case optr.deref t=>
   obtain⟨b,o,d,h,j,k,l⟩:=c;exact⟨b,o,d,h,j,u k,l.cells e⟩
  case st.unst t=>exact aX.cells e (τ:=t) c
  case pr.fst a b=>exact aX.cells e (τ:=a) c
  case pr.snd a b=>exact aX.cells e (τ:=b) c
theorem afw (a:ai):fb a []=Y a:=by cases a<;>rfl
theorem aX.yW {w:bD} {r:bn aZ}:∀{p:bn aZ} {τ c:ai} {m n:Loc} {e f:ajT},aX w τ m e p c n f->fb τ (p++r)=fb c r
 |[],τ,_,_,_,_,_,a=>by grind [ako]
 |s::p,τ,_,_,_,_,_,a=>by
  cases τ<;>cases s<;>simp only[aX] at a
  case osl.idx t i=>obtain⟨d,o,u,q,g,h,j,k,b,l⟩:=a;exact l.yW
  case optr.deref t=>obtain⟨d,o,g,h,j,k,b⟩:=a;exact b.yW
  case st.unst t=>exact aX.yW (p:=p) (τ:=t) a
  case pr.fst t1 t2=>exact aX.yW (p:=p) (τ:=t1) a
  case pr.snd t1 t2=>exact aX.yW (p:=p) (τ:=t2) a
section
variable {E:fk} {C:eW} {st:aO} {a:Act} {A:ajR} {w:bD} {I:X->Prop} {rt:X->ajT} {fp:X->ajZ} {o:bS} {Q:aO->Prop}
def NH:∀{p q:bn aZ},lf (p++[.deref]) q=bp->lf p q=bp
 |[],q,a=>by
  cases q with
  |nil=>cases a
  |cons s q=>
   cases s<;>cases a
 |s::p,[],a=>by cases s<;>cases a
 |s::p,b::q,a=>by cases s<;>cases b<;>first|(cases a;done)|exact NH (p:=p) (q:=q) a|rfl
theorem cM.Fi (v:cM C st A w I rt fp) {id:X} (t:aq st.h id=Y P) {d5:ai} {ad:Loc} (N:aX w P.1 bq (rt id) j d5 ad R) {T:bn (Z×k.den)} (cs:eK P.1 P.2 j (.mp k) (Y (T,m))):∃a E D,R=[.map (Y a)]/\a∈fp id/\(∀q b,bb I C.B q b->b≠a)/\hn (bb I C.B) w k a T m E D/\∀{e:bU cl} {c:X} {z:bn (Z×k.den)} {K:bn (Z×X×k.den)} {p:P.1.den},hn (bb I C.B) (gG w a e c) k a z c e K->k5 w (gG w a e c) a->e3 P.1 P.2 j (.mp k) (Y (z,c)) p->∃d4 a0,cM C ⟨akh [id] [(id,j++[.deref])] st.g,(id,⟨P.1,p⟩)::del [id] st.h⟩ A (gG w a e c) I d4 a0:=by
 obtain⟨dl,Q,ci⟩:=v.tree id P t;obtain⟨f3,d8,ek,d3,a1,a3,a4,L,el,bl,bs⟩:=AO j (loc:=bq) dl (λ_ _ i=>by cases i) Q (λ_ _ i=>by cases i) (v.notM t) cs;obtain⟨an,ao,ap⟩:=N.kR a1;subst an;subst ao;subst ap;obtain⟨a,E,D,rfl,rfl,F⟩:=a3.PU;have G:a∈fp id:=L.mem_iff.2 ac;have ce:∀q b,bb I C.B q b->b≠a:=λq b f n=>v.notM t a G q (n▸f);refine⟨a,E,D,bo,G,ce,F,?_⟩;intro e c z K p bx eq S;have O:=L.nodup_iff.1 Q;rw[ji] at O;have ft:∀b∈d3,b≠a:=λb f n=>O.2.2 a ac b f n.symm;have x:=aex (es':=e) (c':=c) F.h;have co:=aey (es':=e) (c':=c) F.h;have d0:∀b,b≠a->c6 w (gG w a e c) b:=λb f=>Ge f;obtain⟨d9,av,fz,_,d1,_,f0,_,fT⟩:=bl (gG w a e c) (bb I C.B) [.map (Y a)] (Y (z,c)) [a] p (λ_ _ i=>i) (λb f=>by
   have cv:b≠a:=by
    rcases f with⟨q,fr⟩|f|⟨o,fs⟩
    ·grind
    ·grind
    grind
   exact⟨λu _=>x _,λu=>co _,λu=>by rw[x],(d0 b cv).2⟩)
  (aT.PV bx) (λ_ _=>rfl) (λam d2 n=>by
   have:=(a4 am d2 n).1;exactλu V s=>by rw[x];exact this u V s) S
 obtain rfl:=d1 bo (.inr bo);have fn:=(ci a G).2.2.1;have d:ns C st w (gG w a e c) I I rt fp [id] [(id,j++[.deref])] [(id,⟨P.1,p⟩)] (λ_=>rt id) (λ_=>av):=by
  refine⟨by grind [Ss],bo,bo,bo,?_,?_,λ_ i=>i,λ_ i=>.inl i,?_,?_,?_,?_⟩
  ·grind [BQ]
  ·intro b _;by_cases n:b=a
   ·grind
   exact .of_heap (BQ n)
  ·intro H J d;rw[de] at d;split at d
   ·grind [Ss]
   cases d
  ·intro H u J V l s ex;rw[de] at l s;split at l
   ·split at s
    ·omega
    cases s
   cases l
  ·intro H l J d;simp only[fg] at l;subst l;rw[t] at d;obtain rfl:=gb d;refine⟨⟨P.1,p⟩,by rw[de,ax bo],bo,bo,?_,λU f8 f4 d7 _ dg=>dg.cells x⟩;have em:=N.yW (r:=[.deref]);grind [afw,fb]
  intro H l J d U f7 f6 f1 d6 f2 y c2 c1 M ds;simp only[fg] at l;subst l;rw[t] at d;obtain rfl:=gb d;have y:=NH y;refine⟨⟨P.1,p⟩,by rw[de,ax bo],vk y S M,λb f=>?_⟩;obtain⟨ay,f5⟩:=bs U _ _ _ _ _ y (by exact c2) M c1 ds b f;grind
 exact⟨_,_,v.eI d⟩
def tp {α:Type} (c:bw (bn (Z×α)×X)) (b:Z) (d:α):bw (bw (bn (Z×α)×X)):=match c with
 |none=>bq
 |some a=>Y (Y (kh a.1 b d,bif (fM a.1 b).isSome then a.2 else a.2+1))
def oE {f:Type} (tt:bn (bG×ai)) (i:bn (X×aK)) (h:bG) (n d m:al) (g:cI->bw f):bw f:=
 match n with
 |.ref id c=>match aq i id with
  |some a=>match ln tt h,d,m with
   |some l,.val (.int .i64) d,.val p e=>match fb a.1 c with
    |some (.mp b)=>bif a9 l b then match hS b e with
     |some e=>(hT a.1 a.2 c (.mp b)).bind λj=>(tp (α:=b.den) j d e).bind λk=>(mL a.1 a.2 c (.mp b) k).bind λo=>g ⟨bq,[id],[(id,c++[.deref])],[(id,⟨a.1,o⟩)]⟩
     |none=>bq
     else bq
    |_=>bq
   |_,_,_=>bq
  |none=>bq
 |_=>bq
def YO {α:Type} (c:bw (bn (Z×α)×X)) (b:Z):bw (bw (bn (Z×α)×X)):=match c with
 |none=>bq
 |some a=>Y (Y (jn a.1 b,a.2))
def ry {e:Type} (tt:bn (bG×ai)) (h:bn (X×aK)) (g:bG) (l d:al) (f:cI->bw e):bw e:=
 match l with
 |.ref id b=>match aq h id with
  |some a=>match ln tt g,d with
   |some k,.val (.int .i64) d=>match fb a.1 b with
    |some (.mp c)=>bif a9 k c then
     (hT a.1 a.2 b (.mp c)).bind λi=>(YO (α:=c.den) i d).bind λj=>(mL a.1 a.2 b (.mp c) j).bind λm=>f ⟨bq,[id],[(id,b++[.deref])],[(id,⟨a.1,m⟩)]⟩
     else bq
    |_=>bq
   |_,_=>bq
  |none=>bq
 |_=>bq
theorem P0 {A:b} {r:cI->bw b} {f:bP} (j:o.op=.mapUpdate c f n N\/o.op=.insert c f n N) (S:o.dst=bq) (d:oE E.tt st.h c (aU st.g f) (aU st.g n) (aU st.g N) r=Y A):eX E C o st (λcs=>∃t,r t=Y A/\cs=t.app st):=by
 rintro a w ⟨I,rt,fp,i⟩ next d1 ad
 have p:=i.aU f;have e:=i.aU n;have m:=i.aU N;unfold oE at d;split at d
 case h_2=>cases d
 rename_i id d5 G;split at d
 case h_2=>cases d
 rename_i eq y;split at d
 case h_2=>cases d
 rename_i c2 k em ek R B F;obtain⟨dg,d0,cv,c1,d6⟩:=ln.ok R;split at d
 case h_2=>cases d
 rename_i q an;cases u:a9 c2 q with
 |false=>grind
 |true=>
 rw[u] at d;simp only[bH] at d;split at d
 case h_2=>cases d
 rename_i d9 a0;obtain⟨bl,U,J⟩:=eL.1 d;obtain⟨d4,v,K⟩:=eL.1 J;obtain⟨el,a1,L⟩:=eL.1 K;cases bl with
 |none=>cases v
 |some bs=>
 obtain⟨a3,s⟩:=bs;cases v;cases kv a0;rw[G] at p;rw[B] at e;rw[F] at m;generalize av:a.eval f=d8 at p;generalize V:a.eval n=d3 at e;generalize ap:a.eval N=d7 at m;cases e with|val ci=>
 obtain⟨_,rfl⟩:=ci;cases m with|val cJ=>
 cases p with|ref z x=>
 rw[y] at z;cases z;obtain⟨l,d2,dl,rfl,u,O,M,T⟩:=i.Fi y x (iO U);have:=x.ty;rw[an] at this;cases this;obtain⟨D,ds,ay,bx,ce⟩:=M.update (P:=E.P) cv c1 k cJ.len cJ;obtain⟨co,H,Q⟩:=T (bx (λa4 n e=>⟨e,O a4 n e⟩)) ce (nc a1);unfold aj9;have am:(bO a.eval o).run E.P w=.ok .skip (gG w l D (bif (fM a3 k).isSome then s else s+1)):=by
  have this:∀q:ai,cV (.mp q) [als (Y l)]=.map (Y l):=λ_=>rfl;rcases j with j|j<;>
  ·simp only[bO,j,av,V,ap,bY];rw[this,show cV (.int .i64) [akb .i64 k]=.int .i64 k from rfl,ay];rfl
 rw[am];show next (a.put o.dst bW) _
 rw[S];refine ad _ _ _ ⟨_,L,?_⟩ rfl ⟨I,co,H,Q⟩;rfl
theorem YZ {x:b} {m:cI->bw b} (U:o.op=.call {callee:=.builtin .delete,args:=#[N,n],argTypes:=#[c,r]}) (O:o.dst=bq) (d:ry E.tt st.h c (aU st.g N) (aU st.g n) m=Y x):eX E C o st (λbs=>∃p,m p=Y x/\bs=p.app st):=by
 rintro a w ⟨I,rt,fp,i⟩ next c2 T
 have j:=i.aU N;have e:=i.aU n;unfold ry at d;split at d
 case h_2=>cases d
 rename_i id d1 B;split at d
 case h_2=>cases d
 rename_i d5 u;split at d
 case h_2=>cases d
 rename_i ci k M z;obtain⟨co,c1,bx,ce,d2⟩:=ln.ok M;split at d
 case h_2=>cases d
 rename_i l ad;cases q:a9 ci l with
 |false=>grind
 |true=>
 rw[q] at d;simp only[bH] at d;obtain⟨av,R,F⟩:=eL.1 d;obtain⟨d0,s,G⟩:=eL.1 F;obtain⟨d4,an,H⟩:=eL.1 G;cases av with
 |none=>cases s
 |some a0=>
 obtain⟨ds,y⟩:=a0;cases s;rw[B] at j;rw[z] at e;generalize am:a.eval N=d3 at j;generalize S:a.eval n=dl at e;cases e with|val a4=>
 obtain⟨_,rfl⟩:=a4;cases j with|ref v t=>
 rw[u] at v;cases v;obtain⟨f,dg,cs,rfl,q,K,J,Q⟩:=i.Fi u t (iO R);have:=t.ty;rw[ad] at this;cases this;obtain⟨A,cv,ay,a1,a3⟩:=J.delete (P:=E.P) bx ce k o.type r;obtain⟨bl,D,L⟩:=Q (a1 (λap n e=>⟨e,K ap n e⟩)) a3 (nc an);unfold aj9;have V:(bO a.eval o).run E.P w=.ok (.value (.tuple #[])) (gG w f A y):=(by simp only[bO,U,akC,invoke,akU,bY,ct,b2,amr,hX,qD,am,S];have this:∀l:ai,cV (.mp l) [als (Y f)]=.map (Y f):=λ_=>rfl;rw[this,show cV (.int .i64) [akb .i64 k]=.int .i64 k from rfl,ay];rfl);rw[V];show next (a.put o.dst (.tuple #[])) _
 rw[O];refine T _ _ _ ⟨_,H,?_⟩ rfl ⟨I,bl,D,L⟩;rfl
def vX (c:bn (X×aK)) (f g:al):bw (X×bn aZ×X×aK):=match f,g with
 |.ref id (e::d),.ref a []=>match aq c a with
  |some b=>match b.1 with
   |.osl h=>match h.pure with
    |true=>bq
    |false=>Y (id,e::d,a,b)
   |_=>bq
  |none=>bq
 |_,_=>bq
def zx {h:Type} (tt:bn (bG×ai)) (e:bn (X×aK)) (b:X) (j:bG) (id:X) (c:bn aZ) (f:X) (k:aK) (i:cI->bw h):bw h:=
 match gR tt j,aq e id,aq e b with
 |some l,Y d,bq=>match fb d.1 c with
  |some (.osl a)=>match hS (.osl a) k.2 with
   |some g=>bif a9 l a&&(b3 a.size 1300&&(a.kW&&!(bI f id))) then
    (hT d.1 d.2 c (.osl a)).bind λm=>(bh (cA (α:=a.den) m+cA (α:=a.den) g)).bind λ_=>i ⟨Y (b,.app id c a g [b,f]),[id],[(id,c),(id,[])],[(b,⟨.eB,()⟩),(id,d)]⟩
    else bq
   |none=>bq
  |_=>bq
 |_,_,_=>bq
def oh {g:Type} (tt:bn (bG×ai)) (h:bn (X×ai)) (a:bn (X×aK)) (d:X) (c:bG) (e f:al) (b:cI->bw g):bw g:=match vX a e f with
 |some (id,j,i,k)=>zx tt a d c id j i k b
 |none=>o4 tt h a d c e f b
theorem Kl {id:X} (a:vX e d t=Y (id,j,m,P)):d=.ref id j/\t=.ref m []/\aq e m=Y P:=by unfold vX at a;grind
theorem US {A:b} {s:cI->bw b} (y:o.op=.call {callee:=.builtin .append,args:=#[N,n],argTypes:=#[c,c]}) (v:o.dst=Y m) (x:C.ok m) (d:oh E.tt l st.h m c (aU st.g N) (aU st.g n) s=Y A):eX E C o st (λbx=>∃f,s f=Y A/\bx=f.app st):=by
 unfold oh at d;split at d
 case h_2=>exact eX.app y v x (UP d (λf p=>⟨f,p,bo⟩))
 rename_i id c2 e ce am;obtain⟨M,O,q⟩:=Kl am;unfold zx at d;split at d
 case h_2=>cases d
 rename_i ci d2 K av L;split at d
 case h_2=>cases d
 rename_i j cv;split at d
 case h_2=>cases d
 rename_i d0 a1;cases i:(a9 ci j&&(b3 j.size 1300&&(j.kW&&!(bI e id)))) with
 |false=>grind
 |true=>
 rw[i] at d;simp only[cE] at i;obtain⟨R,ap,U,V⟩:=i;have V:e≠id:=λf=>(by simp_all);obtain⟨ds,a0,H⟩:=eL.1 d;obtain⟨_,S,J⟩:=eL.1 H;obtain⟨d1,D⟩:=ce;cases kv a1;rintro a w ⟨I,rt,fp,k⟩ next co ad
 refine Mu (S2:=[e]) y v x k ad K R (gL ap) U M av L (iO a0) ?_ ?_ (yi S) ⟨_,J,bo⟩
 ·have r:=k.aU n;rw[O] at r;generalize c1:a.eval n=dl at r;cases r with|ref z T=>
  rw[q] at z;cases z;obtain⟨rfl,rfl,rfl⟩:=ako.1 T;obtain⟨a4,bs,dg⟩:=k.tree e _ q;have a3:=a4;obtain⟨t,u,an,cs⟩:=a3;have bl:aT (bb I C.B) w (.osl j) [.slice t (cA (α:=j.den) D) u] D (fp e):=(by grind);obtain⟨_,_,G,p,P,Q,_⟩:=kG.osl bl;exact⟨t,u,G,by rw[an];rfl,p,Q bs,λF i=>⟨e,ac,_,q,P F i⟩⟩
 grind
end
end
section
section
variable {P:b1} {w:bD} {b c:X} {A:bU cl} {M:dh->X->Prop} {t:ai} {l:bn (Z×t.den)} {L:bn (Z×X×t.den)}
theorem KZ {d e:bU cl} (g:w.heap[b]?=Y (.map A c)) (f:gG w b d a=gG w b e m):d=e/\a=m:=by grind [alX,Obj.map.injEq,oP]
theorem hn.MB (h:hn M w t b l c A L) {g:cl} (i:A[a]?=Y g):∃d f,L[a]?=Y d/\g=⟨.int .i64 d.1,cV t f,d.2.1⟩:=by have j:a<L.length:=(by have:=(rV.1 i).1;rw[h.n] at this;omega);obtain⟨f,_,k,_⟩:=h.e a L[a] (bk j);grind
theorem hn.afC (f:hn M w t b l c A L) {d e:Z×X×t.den} (n:L[a]?=Y d) (o:L[m]?=Y e) (k:d.1=e.1):a=m:=by have h:=f.pe.nd;have g:a<(L.map (·.1)).length:=(by grind);apply(amp g h (i:=a) (j:=m)).1;grind
theorem hn.afB (f:hn M w t b l c A L) {e d:Z×X×t.den} (n:L[a]?=Y e) (o:L[m]?=Y d) (k:e.2.1=d.2.1):a=m:=by have h:=f.pe.2.2.1;have g:a<(L.map λd=>d.2.1).length:=(by grind);apply(amp g h (i:=a) (j:=m)).1;grind
theorem PT {d:Type} {c:bU d} {e f:d->d} (g:∀b,c[a]?=Y b->e b=f b):c.modify a e=c.modify a f:=by grind
theorem hn.entry (d:hn M w t b l c A L) {z y:bG} {N:cr} (n:P.underlying r=Y (.map z y)) (g:P.underlying z=Y (.int N)) (a:Z) {x:t.den} (J:R.length=t.size) (F:aT M w t R x []) (K:∀w,(akg y).run P w=.ok (cV t R) w):∃(f:bU cl) (o:bn (Z×X×t.den)) (u:ajT) (p e:X),(anv r (.map (Y b)) (.int .i64 a)).run P w=.ok (.tuple #[cV t u,goInt ((p:X):Z)]) (gG w b f (bif (fM l a).isSome then c else c+1))/\aT M w t u ((fM l a).getD x) []/\f[e]?=Y (ame (.int .i64 a) (cV t u) p)/\(∀{B:dh->X->Prop},(∀G a,M G a->B G a/\a≠b)->hn B (gG w b f (bif (fM l a).isSome then c else c+1)) t b (kh l a ((fM l a).getD x)) (bif (fM l a).isSome then c else c+1) f o)/\k5 w (gG w b f (bif (fM l a).isSome then c else c+1)) b:=by
 rcases d.find (P:=P) g a with⟨v,I,s⟩|⟨e,p,T,q,v,I,s,Q,C,D⟩
 ·obtain⟨f,o,ay,i,j⟩:=d.update (P:=P) n g a J F;rw[v] at ay i j|-;simp only[ane,bR,Option.getD_none] at ay i j|-;have k:(akL r (.map (Y b)) (.int .i64 a) (cV t R)).run P w=.ok () (gG w b (A.push ⟨.int .i64 a,cV t R,c⟩) (c+1)):=by
   simp only[akL,bY,b8 n,b2,alx d.h,oO g,s];exact qi d.h
  rw[ay] at k;simp only[anw,alm] at k;obtain⟨rfl,_⟩:=KZ d.h k;refine⟨_,o,R,c,A.size,?_,F,by rw[Array.getElem?_push,ax bo],i,j⟩;simp only[anv,bY,b8 n,b2,alx d.h,oO g,s,K,qi d.h,ct];rfl
 obtain⟨f,o,ay,i,j⟩:=d.update (P:=P) n g a s C;rw[v] at ay i j|-;simp only[amo,bH,us] at ay i j|-;have E:(alr (((A[e]?).map (·.key)).getD (.int .i64 a)) (.int .i64 a)).run P w=.ok (.int .i64 a) w:=(by simp_all [alr,anf]);have k:(akL r (.map (Y b)) (.int .i64 a) (cV t q)).run P w=.ok () (gG w b (A.modify e λm=>{m with key:=.int .i64 a,val:=cV t q}) c):=(by simp only[akL,bY,b8 n,b2,alx d.h,oO g,D,E];exact qi d.h);rw[ay] at k;simp only[anw,alm] at k;obtain⟨rfl,_⟩:=KZ d.h k;refine⟨_,o,q,p,e,?_,C,by grind,i,j⟩;have ao:(A.modify e λm=>{m with key:=.int .i64 a,val:=cV t q})=A.modify e λm=>{m with key:=.int .i64 a}:=PT λm S=>(by grind);have H:((A[e]?).map λO=>((O.born:X):Z)).getD 0=(p:Z):=(by grind);simp only[anv,bY,b8 n,b2,alx d.h,oO g,D,E,qi d.h,ct,ao,H];rfl
theorem hn.Wy (f:hn M w t b l c A L) {e:cl} {d:Z} (y:A[a]?=Y e) (ce:e.key=.int .i64 d) {q F:bG} {ad:cr} (x:P.underlying r=Y (.map q F)) (k:P.underlying q=Y (.int ad)) {E:t.den} (K:R.length=t.size) (V:aT M w t R E []):∃i j,(aos r (.map (Y b)) (.int .i64 (e.born:Z)) (cV t R)).run P w=.ok () (gG w b i (bif (fM l d).isSome then c else c+1))/\(∀{s:dh->X->Prop},(∀C d,M C d->s C d/\d≠b)->hn s (gG w b i (bif (fM l d).isSome then c else c+1)) t b (kh l d E) (bif (fM l d).isSome then c else c+1) i j)/\k5 w (gG w b i (bif (fM l d).isSome then c else c+1)) b:=by
 obtain⟨D,a0,z,bs⟩:=f.MB y;have co:D.1=d:=(by grind);rcases f.find (P:=P) k d with⟨u,v,G⟩|⟨g,cs,cv,av,u,v,G,a3,a4,H⟩
 ·grind
 obtain rfl:g=a:=f.afC v z aa;obtain⟨i,j,ay,n,o⟩:=f.update (P:=P) x k d K V;rw[u] at ay n o|-;simp only[amo,bH] at ay n o|-;have T:(alr (((A[g]?).map (·.key)).getD (.int .i64 d)) (.int .i64 d)).run P w=.ok (.int .i64 d) w:=(by simp_all [alr,anf]);have p:(akL r (.map (Y b)) (.int .i64 d) (cV t R)).run P w=.ok () (gG w b (A.modify g λe=>{e with key:=.int .i64 d,val:=cV t R}) c):=(by simp only[akL,bY,b8 x,b2,alx f.h,oO k,H,T];exact qi f.h);rw[ay] at p;simp only[anw,alm] at p;obtain⟨rfl,_⟩:=KZ f.h p;refine⟨_,j,?_,n,o⟩;have ao:(A.modify g λe=>{e with key:=.int .i64 d,val:=cV t R})=A.modify g λe=>{e with val:=cV t R}:=PT λa1 N=>(by grind);have O:A.findIdx? (λan=>(an.born:Z)==(e.born:Z))=Y g:=by
  rw[Array.findIdx?_eq_some_iff_getElem];have Q:=(rV.1 y).1;refine⟨Q,?_,λB bx ci=>?_⟩
  ·grind
  have S:B<A.size:=aa;obtain⟨am,ap,U,N⟩:=f.MB (Cb S);have bl:(A[B].born:Z)=(e.born:Z):=(by grind);have J:am.2.1=D.2.1:=(by grind);have:=f.afB U z J;omega
 have I:∀(m:Z) (w:bD),(asInt (.int .i64 m)).run P w=.ok m w:=λm w=>(by simp[asInt,ak4]);simp only[aos,bY,ct,b2,alx f.h,I,O,qi f.h,ao];rfl
end
def rz {f:Type} (tt:bn (bG×ai)) (j:bn (X×aK)) (i:X) (h:bG) (m a:al) (g:cI->bw f):bw f:=
 match m with
 |.ref id c=>match aq j id with
  |some b=>match ln tt h,a with
   |some l,.val (.int .i64) a=>match fb b.1 c with
    |some (
     .mp t)=>match mi t with
     |some e=>bif a9 l t then
      (hT b.1 b.2 c (.mp t)).bind λd=>(tp (α:=t.den) d a ((gy d a).getD e)).bind λk=>(mL b.1 b.2 c (.mp t) k).bind λn=>
       g ⟨Y (i,.e6 [.val t ((gy (α:=t.den) d a).getD e),.lh id c a]),[id],[(id,c++[.deref])],[(id,⟨b.1,n⟩)]⟩
      else bq
     |none=>bq
    |_=>bq
   |_,_=>bq
  |none=>bq
 |_=>bq
def rh {b:Type} (tt:bn (bG×ai)) (e:bn (X×aK)) (d:bG) (k i j:al) (c:cI->bw b):bw b:=
 match k,i with
 |.ref id a,.lh f h g=>bif bI f id&&l8 h a then oE tt e d (.ref id a) (.val (.int .i64) g) j c else bq
 |_,_=>bq
theorem e3.lj:∀{p:bn aZ} {τ:ai} {e g:τ.den} {d:ai} {f:d.den},e3 τ e p d f g->eK τ g p d f
 |[],τ,e,g,d,f,c=>by grind [eK.gq,e3.gq]
 |s::p,τ,e,g,d,f,c=>by
  cases τ<;>cases s<;>simp only[e3] at c
  case osl.idx t i=>
   obtain⟨l,h,j,c,rfl⟩:=c;have k:i<e.length:=(hN.1 j).1;exact⟨h,by rw[List.getElem?_set_self k],e3.lj (p:=p) c⟩
  case optr.deref t=>exact e3.lj (p:=p) (τ:=t) c
  case st.unst t=>exact e3.lj (p:=p) (τ:=t) c
  case pr.fst a b=>obtain⟨h,c,rfl⟩:=c;exact e3.lj (p:=p) c
  case pr.snd a b=>obtain⟨h,c,rfl⟩:=c;exact e3.lj (p:=p) c
def O3:∀a:bn aZ,g7 (a++[.deref]) a=bp
 |[]=>rfl
 |s::a=>by cases s<;>exact O3 a
theorem X8 (id:X) (a:bn aZ):fC [id] [(id,a++[.deref])] (.ref id a)=.ref id a:=by
 have:lp [(id,a++[.deref])] (.ref id a)=bp:=by
  cases a with
  |nil=>simp[lp]
  |cons b a=>
   have:=O3 (b::a);simp_all [List.any_cons,List.any_nil,Bool.or_false,alT,alZ,lp]
 show e5 _ _ _=_;unfold e5;rw[show kz [id] [(id,a++[.deref])] (.ref id a)=lp [(id,a++[.deref])] (.ref id a) from rfl,this];simp
def acD {id:X} (a:aU T n=.ref id j):aU (akh [id] [(id,j++[.deref])] T) n=.ref id j:=by
 cases n with
 |tmp c=>
  have a:gt T c=.ref id j:=a;have b:=p7 [id] [(id,j++[aZ.deref])] T c;rw[a] at b;exact b.trans (X8 id j)
 |const d=>exact absurd a (by cases d<;>simp[aU])
 |global T=>cases a
 |func e=>cases a
section
variable {E:fk} {C:eW} {st:aO} {o:bS} {Q:aO->Prop}
theorem Y6 {a:Act} (k:cM C i a.tmps v O x y) {id:X} (q:aU i.g N=.ref id j) (d:aq i.h id=Y P) {t:ai} {G:bn (Z×t.den)} (w:eK P.1 P.2 j (.mp t) (Y (G,m))) {b:X} (E:a.eval N=.map (Y b)) {f:bU cl} (A:v.heap[b]?=Y (.map f m)) {F:X} {c:cl} (z:f[F]?=Y c) {n:Z} (s:c.key=.int .i64 n):cQ (bb O C.B) v i.h x y (.lh id j n) (.int .i64 (c.born:Z)):=by
 have e:=k.aU (a:=a) N;rw[q,E] at e;generalize M:als (Y b)=T at e;cases e with|ref o l=>
 rename_i S U R J;rw[d] at o;obtain rfl:=gb o;obtain⟨rfl,L,D,_,u⟩:=k.lj d w l;rcases D.JC with⟨c,_⟩|⟨p,Q,I,K,H,_,rfl,rfl,_⟩
 ·cases c
 have r:b=p:=(by grind [cV]);subst r;exact .lh d l (u b ac) (nL.2 A) z s
theorem Y7 {an:Type} {V:an} {x:cI->bw an} {m:bP} (c2:o.op=.mapEntry r m N) (bs:o.dst=Y a) (bl:C.ok a) (d:rz E.tt st.h a r (aU st.g m) (aU st.g N) x=Y V):eX E C o st (λv=>∃D,x D=Y V/\v=D.app st):=by
 rintro j w ⟨p,f9,f3,q⟩ next f2 c1
 have s:=q.aU m;have e:=q.aU N;unfold rz at d;split at d
 case h_2=>cases d
 rename_i id d4 G;split at d
 case h_2=>cases d
 rename_i ap Q;split at d
 case h_2=>cases d
 rename_i fn n a4 a1;obtain⟨f0,a0,em,eq,ex⟩:=ln.ok a4;split at d
 case h_2=>cases d
 rename_i t ds;split at d
 case h_2=>cases d
 rename_i fp d0;cases M:a9 fn t with
 |false=>grind
 |true=>
 rw[M] at d;simp only[bH] at d;obtain⟨d3,ci,f⟩:=eL.1 d;obtain⟨f8,k,i⟩:=eL.1 f;obtain⟨am,T,H⟩:=eL.1 i;clear d f i;cases d3 with
 |none=>cases k
 |some d5=>
 obtain⟨l,c⟩:=d5;rw[G] at s;rw[a1] at e;generalize S:j.eval m=ge at s;generalize cs:j.eval N=f7 at e;cases e with|val ek=>
 obtain⟨_,rfl⟩:=ek;cases s with|ref R O=>
 rw[Q] at R;cases R;obtain⟨b,A,L,rfl,f4,J,I,ce⟩:=q.Fi Q O (iO ci);have:=O.ty;rw[ds] at this;cases this;obtain⟨f6,fT,fr,fs,ft,fz⟩:=wv (ex.lay M) d0;have d1:∀w,(akg a0).run E.P w=.ok (cV t fT.cells.toList) w:=λw=>(by rw[<-ft];simp[akg,akr,fr,fs]);have U:=fz (bb p C.B) w;obtain⟨F,f1,z,v,f5,ay,d6,d7,d8,d9⟩:=I.entry (P:=E.P) em eq n U.len U d1;have cv:gy (α:=t.den) (Y (l,c)) n=fM l n:=rfl;rw[cv] at k H;simp only[tp,eT] at k;subst k;generalize(bif (fM l n).isSome then c else c+1)=y at*;generalize(fM l n).getD fp=ad at*;obtain⟨el,a3,K⟩:=ce (d8 (λu N e=>⟨e,J u N e⟩)) d9 (nc T);have dl:(bO j.eval o).run E.P w=.ok (.value (.tuple #[cV t z,goInt ((v:X):Z)])) (gG w b F y):=(by simp only[bO,c2,S,cs,bY];have this:∀t:ai,cV (.mp t) [als (Y b)]=.map (Y b):=λ_=>rfl;rw[this,show cV (.int .i64) [akb .i64 n]=.int .i64 n from rfl,ay];rfl);unfold aj9;rw[dl];show next (j.put o.dst _) _
 rw[bs];have co:aq ((id,(⟨ap.1,am⟩:aK))::del [id] st.h) id=Y ⟨ap.1,am⟩:=(by rw[de,ax bo]);have dg:aT (bb p C.B) (gG w b F y) t z ad []:=d6.mono (λu N e=>⟨e,Ge (J u N e)⟩) ac;have bx:=Y6 K (acD G) co (e3.lj (nc T)) S (oP I.h) d7 (n:=n) rfl;refine c1 _ _ _ ⟨_,H,?_⟩ rfl ⟨p,el,a3,K.put bl (av:=.e6 [.val t ad,.lh id d4 n]) ?_⟩
 ·rfl
 refine .e6 bo (λd2 av gc f i=>?_)
 match d2 with
 |0=>simp at f i;subst f;subst i;exact .val dg
 |1=>simp at f i;subst f;subst i;exact bx
 |n+2=>grind
theorem WD {K:Type} {J:K} {u:cI->bw K} {i:bP} (ex:o.op=.entryStore r i n N) (av:o.dst=bq) (a:rh E.tt st.h r (aU st.g i) (aU st.g n) (aU st.g N) u=Y J):eX E C o st (λn=>∃v,u v=Y J/\n=v.app st):=by
 rintro d w ⟨M,fz,el,e⟩ next ek bs
 have s:=e.aU i;have m:=e.aU n;have q:=e.aU N;unfold rh at a;split at a
 case h_2=>cases a
 rename_i id dl cs ds dg T R;cases f:(bI cs id&&l8 ds dl) with
 |false=>grind
 |true=>
 rw[f] at a;rw[cE] at f;obtain rfl:=ff f.1;obtain rfl:=l8.ok f.2;simp only[bH] at a;unfold oE at a;simp only at a;split at a
 case h_2=>cases a
 rename_i f7 p;split at a
 case h_2=>cases a
 rename_i d6 ft f6 f4 an y S;simp only[al.val.injEq,heq_eq_eq,alm] at y;subst y;obtain⟨d7,d9,d4,d5,f0⟩:=ln.ok an;split at a
 case h_2=>cases a
 rename_i t ce;cases ap:a9 d6 t with
 |false=>grind
 |true=>
 rw[ap] at a;simp only[bH] at a;split at a
 case h_2=>cases a
 rename_i f3 ci;obtain⟨c2,a1,z⟩:=eL.1 a;obtain⟨fs,j,B⟩:=eL.1 z;obtain⟨f5,co,V⟩:=eL.1 B;clear a z B;cases c2 with
 |none=>cases j
 |some d0=>
 obtain⟨l,c⟩:=d0;cases kv ci;rw[T] at s;rw[R] at m;rw[S] at q;generalize fr:d.eval i=f2 at s;generalize fn:d.eval n=fT at m;generalize fp:d.eval N=f1 at q;cases q with|val cJ=>
 cases m with|lh I bl em G a3 a4=>
 rw[p] at I;cases I;cases s with|ref H k=>
 rw[p] at H;cases H;obtain⟨b,A,L,rfl,eq,ad,D,a0⟩:=e.Fi p k (iO a1);have:=k.ty;rw[ce] at this;cases this;obtain⟨ao,_,x⟩:=k.kR bl;simp only[hM,Value.map.injEq,eT,ca] at x;subst x;rw[nL.2 D.h] at G;cases G;obtain⟨Q,d8,ay,d1,d2⟩:=D.Wy (P:=E.P) a3 a4 d4 d5 cJ.len cJ;simp only[tp,eT] at j;subst j;generalize(bif (fM l dg).isSome then c else c+1)=O at*;obtain⟨d3,U,am⟩:=a0 (d1 (λc1 cv F=>⟨F,ad c1 cv F⟩)) d2 (nc co);unfold aj9;have bx:(bO d.eval o).run E.P w=.ok .skip (gG w b Q O):=(by have this:∀t:ai,cV (.mp t) [als (Y b)]=.map (Y b):=λ_=>rfl;simp_all [bY,bO]);rw[bx];show next (d.put o.dst bW) _
 rw[av];refine bs _ _ _ ⟨_,V,?_⟩ rfl ⟨M,d3,U,am⟩;rfl
end
end
section
structure UA where
 c:Code
 n:X
 pin:bw ajZ
 ds:ajZ
 α:Type
 f:aO->bw α
 g:aO->α->aO
structure gJ where
 tt:bn (bG×ai)
 Gm:bn (X×js)
 an:bn (X×ai)
 n:X
 pin:ajZ
 kg:bn (X×al)
 p5:aj1
 aeK:bw ee
 aF:ajS
 ajP:bn UA
 vz:bn uA
 eq:ajS
def y8 (b:b1) (c:bG):Prop:=∃a e d,b.info? c=Y a/\a.size=1/\a.zero=Y e/\e.cells.size=1/\b.underlying c=Y d/\(match d with|.struct _|.array _ _=>bp|_=>br)=br
def AL:bn ho->bn al->bA
 |.c d _::a,.da b _::as=>bI b d&&AL a as
 |.c _ _::_,_=>br
 |_::a,_::as=>AL a as
 |_,_=>bp
def th:bn (X×js)->X->bn al->bw js
 |[],_,_=>bq
 |(k,F)::l,f,as=>bif bI k f&&(AL F.ps as&&(jE 0 F.ps).isNone) then Y F else th l f as
theorem Ji:∀{e:bn (X×js)} {c:X} {as:bn al} {b:js},th e c as=Y b->∃d,(d,b)∈e
 |[],_,_,_,a=>by cases a
 |(d,G)::e,c,as,b,a=>by
  simp only[th] at a;cases f:(bI d c&&(AL G.ps as&&(jE 0 G.ps).isNone)) with
  |true=>grind
  |false=>
   rw[f] at a;obtain⟨h,g⟩:=Ji a;grind
theorem Jj:∀{d:bn (X×js)} {c:X} {as:bn al} {b:js},th d c as=Y b->jE 0 b.ps=bq
 |[],_,_,_,a=>by cases a
 |(k,G)::d,c,as,b,a=>by
  simp only[th] at a;cases e:(bI k c&&(AL G.ps as&&(jE 0 G.ps).isNone)) with
  |true=>
   simp_all
  |false=>
   rw[e] at a;exact Jj a
def vn (ic:gJ) (a:nq) (b:a.den):aO:=⟨ic.kg++ox a.g b,vl a.h (vo a.g b)⟩
def gu (b:X) (c:ajZ) (a:X):bA:=cf a b&&!(eQ a c)
def ao (ic:gJ) {A:Type} (a:bP->al) (g:bn (X×aK)) (r:bS) (c:cI->bw A):bw A:=
 match r.dst with
 |none=>match r.op with
  |.store d e v=>rL ic.tt g d (a e) (a v) c
  |.mapUpdate d e o v=>oE ic.tt g d (a e) (a o) (a v) c
  |.insert d e o v=>oE ic.tt g d (a e) (a o) (a v) c
  |.entryStore d e F v=>rh ic.tt g d (a e) (a F) (a v) c
  |.call {callee:=.builtin .delete,args:=xs,argTypes:=s}=>match xs.toList,s.toList with
   |[e,o],[d,_]=>ry ic.tt g d (a e) (a o) c
   |_,_=>bq
  |_=>bq
 |some b=>
  bif gu ic.n ic.pin b then
  match r.op with
  |.pick y e i=>match a y with
   |.val .bool j=>(match a e,a i with
    |.val k u,.val H v=>match hS (τ:=H) k v with
     |some v=>c ⟨Y (b,.val k (bif j then u else v)),[],[],[]⟩
     |none=>bq
    |u,v=>match j with
     |true=>c ⟨Y (b,u),[],[],[]⟩
     |false=>c ⟨Y (b,v),[],[],[]⟩)
   |_=>bq
  |.call {callee:=.value z,args:=xs,argTypes:=_}=>match a z with
   |.da l m=>
    match th ic.Gm l (xs.toList.map a++m) with
    |none=>bq
    |some h=>bif bI h.f l then
     ky g (rM (xs.toList.map a++m) h.ps) h.ps (xs.toList.map a++m) λq=>(h.yQ q).bind λj=>bif nD b ⟨[],g⟩ (xs.toList.map a++m) (gz h.ps q j) (i7 h.rs (ig h.ps j)) then
      c ⟨Y (b,v8 b (i7 h.rs (ig h.ps j))),gm (xs.toList.map a++m) (gz h.ps q j),ye (mG (xs.toList.map a++m) (gz h.ps q j)),kj (xs.toList.map a++m) (gz h.ps q j)++jb b (i5 (i7 h.rs (ig h.ps j))) 0 (i7 h.rs (ig h.ps j))⟩ else bq
     else bq
   |_=>bq
  |.call {callee:=.builtin .append,args:=xs,argTypes:=s}=>match xs.toList,s.toList with
   |[e,i],[d,x]=>bif bI d x then oh ic.tt ic.an g b d (a e) (a i) c else bq
   |_,_=>bq
  |.call {callee:=.builtin .copy,args:=xs,argTypes:=s}=>match xs.toList,s.toList with
   |[e,i],[d,_]=>qT ic.tt g b d (a e) (a i) c
   |_,_=>bq
  |.assign e=>match a e with
   |.val k i=>c ⟨Y (b,.val k i),[],[],[]⟩
   |.da l m=>c ⟨Y (b,.da l m),[],[],[]⟩
   |.addr id E=>c ⟨Y (b,.addr id E),[],[],[]⟩
   |.dd v=>match aq ic.an b with
    |none=>c ⟨Y (b,.dd v),[],[],[]⟩
    |some k=>match k.pure&&pW k v with
     |true=>(iM k v.cells.toList).bind λi=>c ⟨Y (b,.val k i),[],[],[]⟩
     |false=>(pS ic.an g b (.dd v)).bind c
   |v=>(pS ic.an g b v).bind c
  |.build d w=>sp ic.tt ic.an g a b d w.toList c
  |.mapEntry d e o=>rz ic.tt g b d (a e) (a o) c
  |.box d e=>uI ic.tt ic.an g b d (a e) c
  |.buildSlice d C w=>sr ic.tt ic.an g a b d C w.toList c
  |_=>match kS ic.tt ic.an g a b r.op with
   |.eV t=>c ⟨Y (b,t),[],[],[]⟩
   |.opt _ i l=>i.bind λp=>c ⟨Y (b,l p),[],[],[]⟩
   |.new _ i G B=>bif bI B b then i.bind λp=>c ⟨Y (b,.ref b []),[],[],[(b,G p)]⟩ else bq
   |.no=>match gY ic.tt ic.an g a b r.op with
    |.eV t D=>c ⟨Y (b,t),[],[],D⟩
    |.part _ I l=>(pick I).bind λp=>c ⟨Y (b,(l p).1),[],[],(l p).2⟩
    |.bad=>bq
  else bq
def nE (b:bn (X×aK)) (a:ajZ):bA:=a.all λid=>match aq b id with|some c=>II c.1|none=>br
def kx (ic:gJ) {A:Type} (e:bP->al) (b:bn (X×aK)) (c:bS) (f:cI->bw A):bw A:=
 match mD ic.p5 (vw c) e (rS c.op) with
 |[]=>ao ic e b c f
 |F=>bif nE b F then ao ic (λh=>iv b F (e h)) (del F b) c λa=>bif a.keep.all (λg=>!eQ g.1 F) then f ⟨a.d,F++a.S,a.keep,a.put⟩ else bq else bq
def oD:ho->bA
 |.m _=>bp
 |_=>br
def La (ic:gJ) (a:bP->al) (e:bS):bw (X×bn aZ):=match e.op with
 |.call {callee:=.value z,args:=xs,argTypes:=_}=>match a z with
  |.da d b=>match th ic.Gm d (xs.toList.map a++b) with
   |some c=>tO (xs.toList.map a++b) (c.ps.map oD)
   |none=>bq
  |_=>bq
 |_=>bq
def Ij (ic:gJ) {A:Type} (id:X) (k:aZ) (j:bn aZ) (c:bP->al) (l:bn (X×aK)) (p:bS) (r:cI->bw A):bw A:=
 match p.dst with
 |none=>bq
 |some g=>
  bif gu ic.n ic.pin g then
  match p.op with
  |.call {callee:=.value m,args:=xs,argTypes:=_}=>match c m with
   |.da o d=>
    match th ic.Gm o (xs.toList.map c++d) with
    |none=>bq
    |some a=>
     bif bI a.f o then
     match aq l id with
     |none=>bq
     |some h=>match fb h.1 (k::j) with
      |none=>bq
      |some i=>match hT h.1 h.2 (k::j) i with
       |none=>bq
       |some q=>
        match fJ ((id,⟨i,q⟩)::del [id] l) (rM (mN id (xs.toList.map c++d) (a.ps.map oD)) a.ps) a.ps (mN id (xs.toList.map c++d) (a.ps.map oD)) with
        |none=>bq
        |some e=>(a.yQ e).bind λb=>bif nD g ⟨[],(id,⟨i,q⟩)::del [id] l⟩ (mN id (xs.toList.map c++d) (a.ps.map oD)) (gz a.ps e b) (i7 a.rs (ig a.ps b))&&(eQ id (gm (mN id (xs.toList.map c++d) (a.ps.map oD)) (gz a.ps e b))&&eQ id (mG (mN id (xs.toList.map c++d) (a.ps.map oD)) (gz a.ps e b))) then
         match aq (kj (mN id (xs.toList.map c++d) (a.ps.map oD)) (gz a.ps e b)++jb g (i5 (i7 a.rs (ig a.ps b))) 0 (i7 a.rs (ig a.ps b))) id with
         |none=>bq
         |some s=>match hS i s.2 with
          |none=>bq
          |some t=>(mL h.1 h.2 (k::j) i t).bind λm=>
           r ⟨Y (g,v8 g (i7 a.rs (ig a.ps b))),gm (mN id (xs.toList.map c++d) (a.ps.map oD)) (gz a.ps e b),(id,k::j)::ye (mG (mN id (xs.toList.map c++d) (a.ps.map oD)) (gz a.ps e b)),(id,⟨h.1,m⟩)::(kj (mN id (xs.toList.map c++d) (a.ps.map oD)) (gz a.ps e b)++jb g (i5 (i7 a.rs (ig a.ps b))) 0 (i7 a.rs (ig a.ps b)))⟩
         else bq
     else bq
   |_=>bq
  |_=>bq
  else bq
def JL (ic:gJ) (b:bP->al) (c:bS):bw et:=match c.dst,c.op with
 |some a,.binOp .eql d e g _=>match gR ic.tt d,b e,b g with
  |some _,.val (.a6 _ h) f,.dd (.slice bq 0 0)=>bif gu ic.n ic.pin a then Y (a,cA (α:=h.den) f) else bq
  |_,_,_=>bq
 |_,_=>bq
def O1 (tt:bn (bG×ai)) (a:bG):bA:=match aq tt a with|some (.ptr _ _)=>bp|_=>br
def JK (b:bn (X×aK)):al->bw bA
 |.val (.ptr _ a) d=>Y (Option.isNone (α:=a.den) d)
 |.ref id c=>match aq b id with
  |some a=>match fb a.1 c with
   |some (.optr _)=>Y br
   |_=>bq
  |none=>bq
 |_=>bq
def AM:ai->bA
 |.nil=>bp
 |.pr (.int _) a=>AM a
 |_=>br
def sY:(a:ai)->a.den->a.den->bA
 |.pr (.int _) d,b,c=>((b.1:Z)==(c.1:Z))&&sY d b.2 c.2
 |_,_,_=>bp
def EB (ic:gJ) (e:bP->al) (f:bS):bw (X×bA):=match f.dst,f.op with
 |some d,.binOp .eql c i j _=>match aq ic.tt c,e i,e j with
  |some h,.val (.st a) g,.val k b=>bif eQ c ic.eq&&(AM a&&(a9 h (.st a)&&gu ic.n ic.pin d)) then(hS (τ:=k) (.st a) b).map λb=>(d,sY a g b) else bq
  |_,_,_=>bq
 |_,_=>bq
def Bu (ic:gJ) (c:bP->al) (f:bn (X×aK)) (d:bS):bw (X×bA):=match d.dst,d.op with
 |some a,.binOp g e h i _=>match O1 ic.tt e,JK f (c h),c i with
  |true,Y b,.dd (.pointer bq)=>bif gu ic.n ic.pin a then(match g with
   |.eql=>Y (a,b)
   |.neq=>Y (a,!b)
   |_=>bq) else bq
  |_,_,_=>bq
 |_,_=>bq
def Lc (ic:gJ) (f:bP->al) (d:bS):bw (X×uA×Z):=match d.dst,d.op with
 |some c,.indexAddr e (.global h) g=>match ic.vz.find? (λa=>bI a.b h&&bI a.T e),f g with
  |some a,.val (.int _) i=>bif gu ic.n ic.pin c then Y (c,a,i) else bq
  |_,_=>bq
 |_,_=>bq
def i1 (ic:gJ) {A:Type} (a:aO) (b:bS) (c:aO->bw A):bw A:=
 match Lc ic (aU a.g) b with
 |some (d,i,f)=>(aj i.xs f).bind λn=>c ⟨(d,.val (.ptr .be (.int i.k)) (Y n))::a.g,a.h⟩
 |none=>match(Bu ic (aU a.g) a.h b).or (EB ic (aU a.g) b) with
 |some (d,j)=>c ⟨(d,.val .bool j)::a.g,a.h⟩
 |none=>match JL ic (aU a.g) b with
 |some (d,f)=>rB f (c ⟨(d,.val .bool bp)::a.g,a.h⟩) (c ⟨(d,.val .bool br)::a.g,a.h⟩)
 |none=>match La ic (aU a.g) b with
  |some (id,m::l)=>Ij ic id m l (aU a.g) a.h b λe=>c (e.app a)
  |_=>kx ic (aU a.g) a.h b λe=>c (e.app a)
def ll (ic:gJ) {A:Type} (c:bU bS):ajZ->aO->(aO->bw A)->bw A
 |[],a,b=>b a
 |i::e,a,b=>match c[i]? with
  |none=>bq
  |some f=>match f.guard with
   |none=>i1 ic a f λk=>ll ic c e k b
   |some (
    l,tV)=>match(c[l]?).bind (·.dst),f.dst with
    |some j,Y d=>match gt a.g j with
     |.val .bool m=>bif gu ic.n ic.pin d then
      (match m==tV with
      |true=>i1 ic ⟨(j,.val .bool tV)::a.g,a.h⟩ f λk=>ll ic c e k b
      |false=>ll ic c e ⟨(d,.dd bW)::(j,.val .bool (!tV))::a.g,a.h⟩ b) else bq
     |.dd (.tuple _)=>bif gu ic.n ic.pin d then ll ic c e ⟨(d,.dd bW)::a.g,a.h⟩ b else bq
     |_=>bq
    |_,_=>bq
section
variable {E:fk} {C:eW} {ic:gJ} {A:Type}
def gJ.ae (E:fk) (C:eW) (ic:gJ):Prop:=ic.tt=E.tt/\ic.n=C.n/\ic.pin=C.pin/\((∀b∈ic.Gm,aA E b.2)/\uy C ic.aeK/\(∀a∈ic.aF,y8 E.P a)/\lA E C.I0 C.w0/\ic.vz=E.glob/\ic.eq=E.eqs)/\pz C ic.kg
theorem gu.ok (b:ic.ae E C) {d:X} (a:gu ic.n ic.pin d=bp):C.ok d:=by obtain⟨_,c,e,_,_⟩:=b;rw[c,e] at a;simp only[gu,cE] at a;exact⟨gL a.1,λf=>by grind [g8]⟩
def gC.same {e:ajR} {d:aO} (l:∀b,gt d.g b=gt i.g b) (c:d.h=i.h) (k:gC C i e v):gC C d e v:=by obtain⟨f,m,j,a⟩:=k;exact⟨f,m,j,{a with tree:=by rw[c];exact a.tree,dis:=by rw[c];exact a.dis,tmp:=λb=>by rw[c,l];exact a.tmp b}⟩
def h7.same {f:bU bS} {e:ajZ} {a b:aO} {c:aO->Prop} (l:∀d,gt b.g d=gt a.g d) (m:b.h=a.h) (j:h7 E C f e b c):h7 E C f e a c:=
 λi n k=>j i n (k.same l m)
def cI.Mo {b:bn (X×bn aZ)}:(cI.mk (Y (a,d)) f b e).app i=⟨(a,d)::akh f b i.g,e++del f i.h⟩:=by show aO.mk ((a,d)::nK f b i.g) (e++q6 f i.h)=_;rw[td,xW]
theorem NO (L:ic.ae E C) {l:bS} {st:aO} {o:cI->bw A} {s:A} (a:ao ic (aU st.g) st.h l o=Y s):eX E C l st (λv=>∃c,o c=Y s/\v=c.app st):=by
 obtain⟨B,d7,d8,dg,_⟩:=id L;unfold ao at a;split at a
 ·rename_i i;split at a
  ·grind [aeY,aeX]
  ·grind [P0]
  ·rename_i p b ad ap e;rw[B] at a;exact P0 (.inr e) i a
  ·grind [WD]
  ·rename_i x H e;split at a
   case h_2=>cases a
   rename_i b ad p a1 ao S;rw[B] at a;obtain rfl:x=#[b,ad]:=(by grind);obtain rfl:H=#[p,a1]:=(by grind);grind [YZ]
  grind
 rename_i z i;cases U:gu ic.n ic.pin z with
 |false=>grind
 |true=>
 rw[U] at a;have j:=gu.ok L U;simp only[bH] at a;split at a
 ·rename_i d4 b m e;split at a
  case h_2=>cases a
  rename_i q K;have d5:∀y,(q=bp->y=aU st.g b)->(q=br->y=aU st.g m)->o ⟨Y (z,y),[],[],[]⟩=Y s->eX E C l st (λv=>∃c,o c=Y s/\v=c.app st):=by
   clear a;intro y bx ce u;refine akM (an:=ic.an) i j ?_;rw[e];simp only[gY,FP,K];refine⟨q,bo,_,u,?_⟩;cases q
   ·rw[ce bo];rfl
   rw[bx bo];rfl
  split at a
  ·rename_i d3 ex fp ap d9 V;split at a
   case h_2=>cases a
   rename_i d2 dl;cases kv dl;grind
  grind
 ·rename_i fn x _ e;split at a
  case h_2=>cases a
  rename_i J am d0;split at a
  ·cases a
  rename_i I ci;cases r:bI I.f J with
  |false=>grind
  |true=>
  rw[r] at a;obtain rfl:=ff r;simp only[bH,nG] at a;obtain⟨d,d6,a⟩:=eL.1 a;obtain⟨q,c2,a⟩:=eL.1 a;cases K:nD z ⟨[],st.h⟩ (x.toList.map (aU st.g)++am) (gz I.ps d q) (i7 I.rs (ig I.ps q)) with
  |false=>grind
  |true=>
  rw[K] at a;obtain⟨ek,c1⟩:=Ji ci;obtain⟨cs,cv⟩:=dg.1 _ c1;refine eX.call e d0 i j cs (cv d q c2) (by grind [Jj,BO]) L.2.2.2.2.1 L.2.2.2.1.2.2.2.1 ?_ K ⟨_,a,?_⟩
  ·grind [p6,Le]
  rw[cI.Mo];rfl
 ·rename_i x H e;split at a
  case h_2=>cases a
  rename_i b m p N ao S;cases r:bI p N with
  |false=>grind
  |true=>
  rw[r] at a;obtain rfl:=ff r;have a4:x=#[b,m]:=(by grind);have bl:H=#[p,p]:=(by grind);grind [US]
 ·rename_i x H e;split at a
  case h_2=>cases a
  rename_i b m p N ao S;have a4:x=#[b,m]:=(by grind);have bl:H=#[p,N]:=(by grind);grind [eX.copy]
 ·rename_i b e;have O:I2 (aU st.g b)=bp->o ⟨Y (z,aU st.g b),[],[],[]⟩=Y s->eX E C l st (λv=>∃c,o c=Y s/\v=c.app st):=λV u=>by
   refine akM (an:=ic.an) i j ?_;rw[e];simp only[gY,V,bH];exact⟨_,u,bo⟩
  have as:(pS ic.an st.h z (aU st.g b)).bind o=Y s->eX E C l st (λv=>∃c,o c=Y s/\v=c.app st):=λu=>(by obtain⟨c,co,u⟩:=eL.1 u;exact eX.UZ e i j (U0 co ⟨c,u,bo⟩));split at a
  ·rename_i d3 m t;exact O (by rw[t];rfl) (by grind)
  ·rename_i J am t;exact O (by rw[t];rfl) (by grind)
  ·rename_i id em t;rintro d w ⟨a0,d1,bs,D⟩ next a3 Q
   have M:=D.aU b;have R:(bO d.eval l).run E.P w=.ok (.value (d.eval b)) w:=(by simp[bO,e]);unfold aj9;rw[R];show next (d.put l.dst (d.eval b)) w
   rw[i];refine Q _ _ _ ⟨_,a,bo⟩ rfl ⟨_,_,_,D.put j ?_⟩;grind
  ·rename_i ap t;split at a
   ·exact O (by rw[t];rfl) (by grind)
   split at a
   ·rename_i T;simp only[cE] at T;obtain⟨m,ds,a⟩:=eL.1 a;rintro d w ⟨a0,d1,bs,D⟩ next a3 Q
    have M:=D.aU b;have R:(bO d.eval l).run E.P w=.ok (.value (d.eval b)) w:=(by simp[bO,e]);unfold aj9;rw[R];show next (d.put l.dst (d.eval b)) w
    rw[i];refine Q _ _ _ ⟨_,a,bo⟩ rfl ⟨_,_,_,D.put j ?_⟩;rw[t] at M;generalize d.eval b=d2 at M;cases M;rw[<-pW.ok T.2];exact .val (pV ds)
   grind
  grind
 ·grind [Ve]
 ·grind [Y7]
 ·grind [Vh]
 ·grind [Vl]
 split at a
 ·rename_i y k;refine akM (an:=ic.an) i j ?_;rw[<-B];exact Iq (by rw[k];exact⟨_,a,bo⟩)
 ·rename_i av m J k;refine akM (an:=ic.an) i j ?_;rw[<-B];obtain⟨G,F,a⟩:=eL.1 a;exact Iq (by rw[k];exact⟨G,F,_,a,bo⟩)
 ·rename_i av m eq c k;cases r:bI c z with
  |false=>grind
  |true=>
  rw[r] at a;obtain rfl:=ff r;obtain⟨G,F,a⟩:=eL.1 a;refine akM (an:=ic.an) i j ?_;rw[<-B];exact Iq (by rw[k];exact⟨G,F,_,a,bo⟩)
 refine akM (an:=ic.an) i j ?_;rw[B] at a;split at a
 ·rename_i y el k;rw[k];exact⟨_,a,bo⟩
 ·rename_i av fr J k;rw[k];obtain⟨G,F,a⟩:=eL.1 a;exact⟨G,ac0 F,_,a,bo⟩
 grind
theorem eX.mono {P:aO->Prop} (e:eX E C h i P) (j:∀a,P a->u a):eX E C h i u:=
 λc l f next b g=>e c l f next b (λa d m k=>g a d m (j a k))
theorem aea (b:lp g d=bp):∃id,d.ids=[id]/\∃a∈g,a.1=id:=by
 have e:∀(id:X) (f:X×bn aZ->bA),(g.any λa=>bI a.1 id&&f a)=bp->∃a∈g,a.1=id:=(by intro id f k;obtain⟨a,h,i⟩:=pA.1 k;simp only[cE] at i;grind [akJ]);cases d with
 |ref id c=>
  cases c with
  |nil=>
   obtain⟨a,h,j⟩:=pA.1 (show(g.any λa=>bI a.1 id)=bp from b);exact⟨id,bo,a,h,ff j⟩
  |cons n c=>exact⟨id,bo,e id _ b⟩
 |addr id c=>exact⟨id,bo,e id _ b⟩
 |view id c m l=>exact⟨id,bo,e id _ b⟩
 |_=>cases b
theorem Gs:d.fc (f++w)=(d.fc f||d.fc w):=by simp only[akc];rw[wy];simp only[pA,jr];grind [g8,anx,List.mem_append_right]
theorem M5 {b:bn al}:(al.da a b).fc f=b.any λc=>c.fc f:=by
 show(akV b).any _=_
 induction b with
 |nil=>rfl
 |cons c b d=>grind [akV,akc]
theorem R5 (b:d.fc w=br):kz (w++f) g d=kz f g d:=by
 cases d with
 |da m p=>
  rw[M5,ud] at b;rw[wy];simp only[kz,gU];constructor<;>intro i e h<;>have:=i e h<;>rw[Gs,Bool.eq_false_iff.2 (b e h)] at*<;>simpa using this
 |app id q s r c=>
  have j:=Lr b;have o:∀a∈c,eQ a (w++f)=eQ a f:=λa k=>(by have n:a∉w:=j a (g3 _ k);rw[wy,g8,g8,ha];grind);have l:(c.all λa=>!(eQ a (w++f)))=c.all λa=>!(eQ a f):=(by grind);grind [kz]
 |_=>rfl
theorem X2 {F S:ajZ} {keep:bn (X×bn aZ)} {a:al}:e5 (F++S) keep a=.dead\/(a.fc F=br/\e5 (F++S) keep a=e5 S keep a)\/(kz (F++S) keep a=bp/\e5 (F++S) keep a=a):=by grind [R5,Gs,kz,e5]
theorem nE.ok (b:nE e f=bp):∀id∈f,∃a,aq e id=Y a/\II a.1=bp:=by intro id c;have:=gU.1 b id c;grind
theorem NQ (bs:ic.ae E C) {L:bS} {O:cI->bw A} {am:A} (e:kx ic (aU i.g) i.h L O=Y am):eX E C L i (λN=>∃b,O b=Y am/\N=b.app i):=by
 unfold kx at e;split at e
 ·grind [NO]
 generalize mD ic.p5 (vw L) (aU i.g) (rS L.op)=c at e;cases T:nE i.h c with
 |false=>grind
 |true=>
 rw[T] at e;simp only[bH] at e;rw[<-Xm c i] at e;have m:=NO (st:=s8 c i) bs e;intro j cv M next an ce
 obtain⟨c2,d4,dg,M⟩:=M;refine m j cv (M.freeze (nE.ok T)) next an (λd5 ap c1 co a4 a0=>?_)
 obtain⟨b,U,rfl⟩:=co;cases V:b.keep.all (λl=>!eQ l.1 c) with
 |false=>grind
 |true=>
 rw[V] at U;have V:∀l∈b.keep,l.1∉c:=λl q bx=>(by grind [g8,ak1]);refine ce _ ap c1 ⟨_,U,bo⟩ a4 (a0.Pn ?_ ?_)
 ·intro B;have r:∀j:al,e5 (c++b.S) b.keep j=.dead\/e5 (c++b.S) b.keep j=e5 b.S b.keep (gQ i.h c j):=by
   intro j;rcases X2 (F:=c) (S:=b.S) (keep:=b.keep) (a:=j) with e|⟨m,y⟩|⟨m,y⟩
   ·grind
   ·right;rw[y];rcases mC i.h c j with⟨id,p,rfl,cs,_⟩|⟨_,o⟩|⟨o,_⟩
    ·grind [g8,akc,bT]
    ·grind
    grind
   have ci:∀(id:X),(∃k∈b.keep,k.1=id)->eQ id c=br:=λid ⟨k,z,b⟩=>(by grind);have u:kz (c++b.S) b.keep j=kz b.S b.keep j->∀(id:X),j.ids=[id]->(∃k∈b.keep,k.1=id)->e5 (c++b.S) b.keep j=.dead\/e5 (c++b.S) b.keep j=e5 b.S b.keep (gQ i.h c j):=by
    intro ds id d1 z;have ad:j.fc c=br:=(by grind [akc]);right;rcases mC i.h c j with⟨l,p,rfl,cs,_⟩|⟨_,o⟩|⟨o,_⟩
    ·grind [g8,akc,bT]
    ·grind
    grind [e5,kz]
   have w:∀(id:X) (P:X×bn aZ->bA),(b.keep.any λk=>bI k.1 id&&P k)=bp->∃k∈b.keep,k.1=id:=(by intro id P bl;obtain⟨k,z,y⟩:=pA.1 bl;simp only[cE] at y;grind [akJ]);cases j with
   |ref id f=>
    cases f with
    |nil=>
     obtain⟨k,z,G⟩:=pA.1 (show(b.keep.any λk=>bI k.1 id)=bp from m);exact u bo id bo ⟨k,z,ff G⟩
    |cons N f=>exact u bo id bo (w id _ m)
   |addr id f=>exact u bo id bo (w id _ m)
   |view id f D q=>exact u bo id bo (w id _ m)
   |da t n=>
    have a1:=gU.1 m;have ad:(al.da t n).fc c=br:=(by rw[M5,ud];grind [aea,Gs,id,akc,ao]);right;rcases mC i.h c (.da t n) with⟨l,p,ay,_⟩|⟨_,o⟩|⟨o,_⟩
    ·cases ay
    ·grind
    rw[o,y];unfold e5;have dl:kz b.S b.keep (.da t n)=bp:=gU.2 λav a3=>(by have G:=a1 av a3;rw[Gs,Bool.not_or,jr,cE] at G;grind);grind
   |app id f v x s=>
    have R:((s.all λl=>!(eQ l (c++b.S)))&&b.keep.any λk=>bI k.1 id&&lf k.2 f)=bp:=m;rw[cE] at R;have d0:=ci id (w id _ R.2);have ad:(al.app id f v x s).fc c=br:=by
     unfold akc;rw[ud];intro l q bx;rcases fG.1 (show l∈id::s from q) with rfl|q
     ·grind
     grind [ak1,g8,anx]
    right;rcases mC i.h c (.app id f v x s) with⟨l,p,ay,_⟩|⟨_,o⟩|⟨o,_⟩
    ·cases ay
    ·grind
    grind [R5,e5]
   |hz j=>
    have m:lp b.keep j=bp:=m;cases j with
    |ref id f=>
     cases f with
     |nil=>
      obtain⟨k,z,G⟩:=pA.1 (show(b.keep.any λk=>bI k.1 id)=bp from m);exact u bo id bo ⟨k,z,ff G⟩
     |cons N f=>exact u bo id bo (w id _ m)
    |addr id f=>exact u bo id bo (w id _ m)
    |view id f D q=>exact u bo id bo (w id _ m)
    |_=>cases m
   |_=>cases m
  have d2:∀j:al,y1 (fC (c++b.S) b.keep j) (fC b.S b.keep (iv i.h c j)):=by
   intro j;cases j with
   |e6 n=>
    refine .inr (.inr ⟨_,_,bo,bo,ac,λl k d7 m y=>?_⟩);grind
   |ref id f=>
    have o:=r (.ref id f);have ao:fC b.S b.keep (iv i.h c (.ref id f))=e5 b.S b.keep (gQ i.h c (.ref id f)):=by show fC b.S b.keep (gQ i.h c (.ref id f))=_;rcases mC i.h c (.ref id f) with⟨l,p,_,_,_,e⟩|⟨e,_⟩|⟨e,_⟩<;>rw[e]<;>first|rfl|grind [Xn]
    rw[ao];exact o.imp (λe=>e) .inl
   |dead=>exact(r .dead).imp (λe=>e) .inl
   |val v k=>exact .inr (.inl (by
    simp[e5,gQ,iv,fC,akc,bT]))
   |dd d6=>exact .inr (.inl (by
    simp[e5,gQ,iv,fC,akc,bT]))
   |addr id f=>
    have ao:fC b.S b.keep (iv i.h c (.addr id f))=e5 b.S b.keep (gQ i.h c (.addr id f)):=by show fC b.S b.keep (gQ i.h c (.addr id f))=_;rcases mC i.h c (.addr id f) with⟨l,p,_,_,_,e⟩|⟨e,_⟩|⟨e,_⟩<;>rw[e]<;>first|rfl|grind
    rw[ao];exact(r _).imp (λe=>e) .inl
   |view id f D q=>
    have ao:fC b.S b.keep (iv i.h c (.view id f D q))=e5 b.S b.keep (gQ i.h c (.view id f D q)):=by show fC b.S b.keep (gQ i.h c (.view id f D q))=_;rcases mC i.h c (.view id f D q) with⟨l,p,_,_,_,e⟩|⟨e,_⟩|⟨e,_⟩<;>rw[e]<;>first|rfl|grind
    rw[ao];exact(r _).imp (λe=>e) .inl
   |lh id f K=>
    have ao:fC b.S b.keep (iv i.h c (.lh id f K))=e5 b.S b.keep (gQ i.h c (.lh id f K)):=by show fC b.S b.keep (gQ i.h c (.lh id f K))=_;rcases mC i.h c (.lh id f K) with⟨l,p,_,_,_,e⟩|⟨e,_⟩|⟨e,_⟩<;>rw[e]<;>first|rfl|grind
    rw[ao];exact(r _).imp (λe=>e) .inl
   |app id f v x s=>
    have ao:fC b.S b.keep (iv i.h c (.app id f v x s))=e5 b.S b.keep (gQ i.h c (.app id f v x s)):=by show fC b.S b.keep (gQ i.h c (.app id f v x s))=_;rcases mC i.h c (.app id f v x s) with⟨l,p,_,_,_,e⟩|⟨e,_⟩|⟨e,_⟩<;>rw[e]<;>first|rfl|grind
    rw[ao];exact(r _).imp (λe=>e) .inl
   |agg n=>
    have ao:fC b.S b.keep (iv i.h c (.agg n))=e5 b.S b.keep (gQ i.h c (.agg n)):=by show fC b.S b.keep (gQ i.h c (.agg n))=_;rcases mC i.h c (.agg n) with⟨l,p,_,_,_,e⟩|⟨e,_⟩|⟨e,_⟩<;>rw[e]<;>first|rfl|grind
    rw[ao];exact(r _).imp (λe=>e) .inl
   |da t n=>
    have ao:fC b.S b.keep (iv i.h c (.da t n))=e5 b.S b.keep (gQ i.h c (.da t n)):=by show fC b.S b.keep (gQ i.h c (.da t n))=_;rcases mC i.h c (.da t n) with⟨l,p,_,_,_,e⟩|⟨e,_⟩|⟨e,_⟩<;>rw[e]<;>first|rfl|grind
    rw[ao];exact(r _).imp (λe=>e) .inl
   |hz j=>
    have ao:fC b.S b.keep (iv i.h c (.hz j))=e5 b.S b.keep (gQ i.h c (.hz j)):=by show fC b.S b.keep (gQ i.h c (.hz j))=_;rcases mC i.h c (.hz j) with⟨l,p,_,_,_,e⟩|⟨e,_⟩|⟨e,_⟩<;>rw[e]<;>first|rfl|grind
    rw[ao];exact(r _).imp (λe=>e) .inl
  show y1 (gt (cI.app ⟨b.d,c++b.S,b.keep,b.put⟩ i).g B) (gt (b.app (s8 c i)).g B);obtain⟨J,H,I,d3⟩:=b;cases J with
  |none=>
   show y1 (gt (nK (c++H) I i.g) B) (gt (nK H I (s8 c i).g) B);grind [td,p7,EQ]
  |some o=>
   obtain⟨J,Q⟩:=o;show y1 (gt ((J,Q)::nK (c++H) I i.g) B) (gt ((J,Q)::nK H I (s8 c i).g) B);rw[i4,i4];split
   ·exact .inr (.inl bo)
   grind [td,p7,EQ]
 intro id;show aq (b.put++q6 (c++b.S) i.h) id=aq (b.put++q6 b.S (del c i.h)) id;grind [xW,kV,m7]
theorem Wp (m:ic.ae E C) {p:bS} {id:X} {k:aZ} (bl:La ic (aU i.g) p=Y (id,k::j)) {q:cI->bw A} {y:A} (a:Ij ic id k j (aU i.g) i.h p q=Y y):eX E C p i (λk=>∃r,q r=Y y/\k=r.app i):=by
 have R:=λc=>gu.ok m (d:=c);have M:=m.2.2.2.2.1;have N:=m.2.2.2.1.2.2.2.1;obtain⟨bs,_,_,V,_⟩:=m;unfold Ij at a;split at a
 ·cases a
 rename_i c I;cases w:gu ic.n ic.pin c with
 |false=>grind
 |true=>
 rw[w] at a;have J:=R c w;simp only[bH] at a;split at a
 case h_2=>cases a
 rename_i a3 B cs P;split at a
 case h_2=>cases a
 rename_i F x an;split at a
 ·cases a
 rename_i b G;cases u:bI b.f F with
 |false=>grind
 |true=>
 rw[u] at a;obtain rfl:=ff u;simp only[bH] at a;split at a
 ·cases a
 rename_i ci T;split at a
 ·cases a
 rename_i a1 bx;split at a
 ·cases a
 rename_i av ad;split at a
 ·cases a
 rename_i l a4;obtain⟨e,Q,a⟩:=eL.1 a;have S:tO (B.toList.map (aU i.g)++x) (b.ps.map oD)=Y (id,k::j):=(by grind [La]);generalize H:mN id (B.toList.map (aU i.g)++x) (b.ps.map oD)=o at*;cases v:nD c ⟨[],(id,⟨a1,av⟩)::del [id] i.h⟩ o (gz b.ps l e) (i7 b.rs (ig b.ps e)) with
 |false=>grind
 |true=>
 rw[v] at a;cases s:eQ id (gm o (gz b.ps l e)) with
 |false=>grind
 |true=>
 rw[s] at a;cases t:eQ id (mG o (gz b.ps l e)) with
 |false=>grind
 |true=>
 rw[t] at a;simp only[Bool.and_self,bH] at a;split at a
 ·cases a
 rename_i co U;split at a
 ·cases a
 rename_i D am;obtain⟨a0,ap,a⟩:=eL.1 a;obtain⟨ce,O⟩:=Ji G;obtain⟨K,L⟩:=V.1 _ O;refine eX.sub P an I J K (L l e Q) (by grind [Jj,BO]) M N T (iO ad) S H.symm ?_ v (g8.1 s) (g8.1 t) (y':=D) (z:=a0) ?_ (nc ap) ⟨_,a,?_⟩
 ·grind [p6,Le]
 ·rw[U];exact b4 Y (kv am)
 rw[cI.Mo]
def aeq (b:bD) (e:X) (a:bw Addr) (g d:X) (f:p.underlying c=Y (.slice r)):(ak3 (e+1) c (.slice a g d) (.slice bq 0 0)).run p b=.ok a.isNone b:=by cases a<;>simp[ak3,b8 f]
theorem aeo (b:bD) (a:bw Addr) (e d:X) (f:p.underlying c=Y (.slice r)):(aka .eql c (.slice a e d) (.slice bq 0 0)).run p b=.ok (.bool a.isNone) b:=by simp_all [aeq,alM,alN,aka]
theorem Zp (s:ic.ae E C) {x:bS} (b:JL ic (aU i.g) x=Y (a,m)):eX E C x i (λR=>∃c:bA,R=⟨(a,.val .bool c)::i.g,i.h⟩/\(c=bp->m=0)):=by
 unfold JL at b;split at b
 case h_2=>cases b
 rename_i D A j k a1 H J;split at b
 case h_2=>cases b
 rename_i a0 ap z y r F G;cases t:gu ic.n ic.pin D with
 |false=>grind
 |true=>
 rw[t] at b;simp only[bH,eT,h8] at b;obtain⟨rfl,rfl⟩:=b;rw[s.1] at r;obtain⟨_,T,_,K,_⟩:=gR.ok r;rintro e f ⟨S,av,V,l⟩ next U an
 have o:=l.aU j;have p:=l.aU k;rw[F] at o;rw[G] at p;obtain⟨d,u⟩:∃d,d=e.eval j:=⟨_,bo⟩;obtain⟨nh,w⟩:∃d,d=e.eval k:=⟨_,bo⟩;rw[<-u] at o;rw[<-w] at p;cases o with|val O=>cases p with|dd _=>
 obtain⟨_,c,q,rfl,ad,am,_⟩:=O;have L:e.eval j=.slice c (cA (α:=z.den) y) q:=u.symm;have M:e.eval k=.slice bq 0 0:=w.symm;have I:∀f,(akS .eql A j k (.slice c (cA (α:=z.den) y) q) (.slice bq 0 0)).run E.P f=.ok () f:=λf=>(by unfold akS;simp);refine al0 (Q:=λB N=>B=.val .bool c.isNone/\N=[]) l (.pure (v:=.bool _) (by simp only[bO,J,L,M,bY,I,b2,aeo _ _ _ _ K];rfl) (.bool _) ⟨bo,bo⟩) H (gu.ok s t) ?_;grind
def aff {d:X} {f:cr} (i:E.P.underlying r=Y (.array d c)) (g:e9 E.P (.int f) c) {b:Act} (k:h.op=.indexAddr r (.global m) n) {p:cr} (j:b.eval n=.int p a) (q:a<d):(bO b.eval h).run E.P v=.ok (.value (.pointer (Y ⟨m,0+a*1,bq⟩))) v:=by have e:=g.sizeOf v;have o:b.eval (.global m)=.pointer (Y ⟨m,0,bq⟩):=rfl;have:(0:Z)<=(a:Z)/\(a:Z)<(d:Z):=⟨aa,aa⟩;have l:(ai.int f).size=1:=rfl;rw[l] at e;simp[bO,k,o,j,Instr.indexAt,alo,ak4,b8 i,this,e,akR];omega
theorem afb (e:ic.ae E C) {A:bS} {r:uA} {z f:Z} (c:Lc ic (aU i.g) A=Y (a,r,z)) (V:aj r.xs z=Y f):eX E C A i (λap=>ap=⟨(a,.val (.ptr .be (.int r.k)) (Y f))::i.g,i.h⟩):=by
 unfold Lc at c;split at c
 case h_2=>cases c
 rename_i F a1 ci p R S;split at c
 case h_2=>cases c
 rename_i d y q v M;cases w:gu ic.n ic.pin F with
 |false=>grind
 |true=>
 rw[w] at c;simp only[bH,eT,h8] at c;obtain⟨rfl,rfl,rfl⟩:=c;have l:=List.find?_some v;have o:=GJ v;rw[cE] at l;obtain rfl:=ff l.1;obtain rfl:=ff l.2;rw[e.2.2.2.1.2.2.2.2.1] at o;obtain⟨a0,P,O⟩:=E.gok d o;rintro s dg ⟨av,c1,bx,j⟩ next a3 ce
 have m:=j.aU p;rw[M] at m;generalize T:s.eval p=c2 at m;cases m with|val an=>
 obtain⟨_,rfl⟩:=an;obtain⟨ao,K,L⟩:=OB V;obtain⟨_,a4,bs,u,ay,cv,B⟩:=j.glob e.2.2.2.2.1 e.2.2.2.1.2.2.2.1 d o;simp only[hM,aj3,ca] at u;obtain⟨rfl,_⟩:=u;rcases B with B|⟨bl,co,t,N,am⟩
 ·grind
 simp only[eT,akk,ca] at t;obtain⟨rfl,rfl⟩:=t;obtain⟨J,G,H,I⟩:=am _ _ L;have U:s.eval p=.int y (q.toNat:X):=(by rw[T];show akb y q=_;grind);refine al0 (Q:=λD ad=>D=.val (.ptr .be (.int d.k)) (Y f)/\ad=[]) j (.pure (aff P O S U K) (.val (τ:=.ptr .be (.int d.k)) (x:=Y f) (cs:=[.pointer (Y ⟨d.b,0+q.toNat*1,bq⟩)]) ⟨bo,d.b,_,J,bo,N,G,H,I⟩) ⟨bo,bo⟩) R (gu.ok e w) ?_;grind
def Sd (b:bD) (d:X) (a:bw Addr) (e:p.underlying c=Y (.pointer r)):(ak3 (d+1) c (.pointer a) (.pointer bq)).run p b=.ok a.isNone b:=by cases a<;>simp[ak3,b8 e]
theorem aep (b:bD) (a:bw Addr) (d:p.underlying c=Y (.pointer r)):(aka .eql c (.pointer a) (.pointer bq)).run p b=.ok (.bool a.isNone) b:=by simp_all [Sd,alM,alN,aka]
theorem aer (b:bD) (a:bw Addr) (d:p.underlying c=Y (.pointer r)):(aka .neq c (.pointer a) (.pointer bq)).run p b=.ok (.bool (!a.isNone)) b:=by simp_all [Sd,alM,alN,aka]
theorem Zl {f:Act} (m:cM C i f.tmps v O x y) {c:bA} (a:JK i.h (aU i.g n)=Y c):∃l:bw Addr,f.eval n=.pointer l/\l.isNone=c:=by
 have b:=m.aU n;obtain⟨v1,d⟩:∃k,k=f.eval n:=⟨_,bo⟩;rw[<-d] at b;unfold JK at a;split at a
 ·rename_i D z k j;rw[j] at b;cases b with|val e=>
  obtain⟨_,e⟩:=e;cases a;cases k with
  |none=>subst e;exact⟨bq,d.symm,bo⟩
  |some G=>obtain⟨r,u,s,rfl,_⟩:=e;exact⟨Y ⟨r,u,bq⟩,d.symm,bo⟩
 ·rename_i id E j;split at a
  case h_2=>cases a
  rename_i z p;split at a
  case h_2=>cases a
  rename_i F t;cases a;rw[j] at b;cases b with|ref q o=>
  rw[p] at q;cases q;have:=o.ty;rw[t] at this;cases this;obtain⟨c,w,s,rfl,A,B⟩:=ph (m.tree id _ p).1 o;exact⟨Y ⟨c,w,bq⟩,d.symm,bo⟩
 grind
theorem adg (p:ic.ae E C) {F:bS} {m:bA} (b:Bu ic (aU i.g) i.h F=Y (a,m)):eX E C F i (λO=>O=⟨(a,.val .bool m)::i.g,i.h⟩):=by
 unfold Bu at b;split at b
 case h_2=>cases b
 rename_i J d k R f av u y;split at b
 case h_2=>cases b
 rename_i I o K L;cases q:gu ic.n ic.pin J with
 |false=>grind
 |true=>
 rw[q] at b;simp only[bH] at b;have M:∃j,E.P.underlying k=Y (.pointer j):=by
  rw[p.1] at o;unfold O1 at o;split at o
  ·rename_i am ap N;obtain⟨_,j,_,_,_,_,V,_⟩:=E.ok k _ N;grind
  grind
 obtain⟨j,z⟩:=M;rintro t e ⟨S,an,U,c⟩ next T ad
 have r:=c.aU f;rw[L] at r;obtain⟨nh,B⟩:∃G,G=t.eval f:=⟨_,bo⟩;rw[<-B] at r;cases r with|dd _=>
 obtain⟨H,A,x⟩:=Zl c K;have D:t.eval f=.pointer bq:=B.symm;have w:∀d e,(akS d k R f (.pointer H) (.pointer bq)).run E.P e=.ok () e:=λd e=>(by unfold akS;cases d<;>simp);split at b
 ·cases b;refine al0 (Q:=λl s=>l=.val .bool m/\s=[]) c (.pure (v:=.bool _) (by simp only[bO,y,A,D,bY,w,b2,aep _ _ z,x];rfl) (.bool _) ⟨bo,bo⟩) u (gu.ok p q) ?_;grind
 ·cases b;refine al0 (Q:=λl s=>l=.val .bool (!I)/\s=[]) c (.pure (v:=.bool _) (by simp only[bO,y,A,D,bY,w,b2,aer _ _ z,x];rfl) (.bool _) ⟨bo,bo⟩) u (gu.ok p q) ?_;grind
 grind
def N2 {P:b1} {M:dh->X->Prop} {w w0:bD} {d:X}:∀{t:ai} {fs:bn akl} {off:X} {b:ajT} {xs ys:ajR} {p q:t.den},AM t=bp->iD P t fs off b->(fs.all λf=>f.name !="_")=bp->aT M w0 t (xs.toList.drop off) p []->aT M w0 t (ys.toList.drop off) q []->(amy (d+1) xs ys fs).run P w=.ok (sY t p q) w
 |.nil,[],_,_,_,_,_,_,_,_,_,_,_=>by simp[amy,sY]
 |.nil,_::_,_,_,_,_,_,_,_,c,_,_,_=>c.elim
 |.pr i e,[],_,_,_,_,_,_,_,c,_,_,_=>c.elim
 |.pr i e,f::fs,off,b,xs,ys,p,q,a,c,h,A,B=>by
  cases i<;>simp only[AM] at a<;>try (cases a;done)
  rename_i L;obtain⟨v,k,J,_,x⟩:=c;simp only[r5,cE,bne_iff_ne,ne_eq] at h;obtain⟨G,f2,o,E,m⟩:=A;obtain⟨H,I,r,F,n⟩:=B;obtain⟨rfl,rfl⟩:=am8.1 o.symm;obtain⟨rfl,rfl⟩:=am8.1 r.symm;have j:∀(b:ajR) (g:Value),(b.toList.drop off).take 1=[g]->(part f.type b f.offset).run P w=.ok g w:=λb g z=>(by have C:b[off]?=Y g:=(by have:=b4 (·[0]?) z;simpa[amh,qB] using this);simp only[part,bY,k.isAgg,b2,v,C,pd];rfl);have s:=j xs _ E.2;have u:=j ys _ F.2;obtain⟨K,_,_,_,_,y⟩:=k;have D:=N2 (P:=P) (M:=M) (w:=w) (w0:=w0) (d:=d) (t:=e) (fs:=fs) (off:=off+1) (xs:=xs) (ys:=ys) (p:=p.2) (q:=q.2) a x (by simpa using h.2)
   (by rw[r6] at m;exact m) (by rw[r6] at n;exact n)
  simp only[amy,h.1,not_false_eq_true,cg,ne_eq,bY,s,u,b2,run_equalIn_int _ _ _ _ _ _ _ y];show Sem.run P (if(!((p.1:Z)==(q.1:Z)))=bp then pure br else amy (d+1) xs ys fs) w=_;cases l:((p.1:Z)==(q.1:Z)) with
  |true=>
   rw[aw ac,D];show _=aot (((p.1:Z)==(q.1:Z))&&sY e p.2 q.2) w;rw[l,alZ]
  |false=>
   rw[ax ac];show _=aot (((p.1:Z)==(q.1:Z))&&sY e p.2 q.2) w;rw[l,aor];rfl
 |.int _,_,_,_,_,_,_,_,a,_,_,_,_=>by cases a
 |.bool,_,_,_,_,_,_,_,a,_,_,_,_=>by cases a
 |.str,_,_,_,_,_,_,_,a,_,_,_,_=>by cases a
 |.a6 _ _,_,_,_,_,_,_,_,a,_,_,_,_=>by cases a
 |.ptr _ _,_,_,_,_,_,_,_,a,_,_,_,_=>by cases a
 |.osl _,_,_,_,_,_,_,_,a,_,_,_,_=>by cases a
 |.optr _,_,_,_,_,_,_,_,a,_,_,_,_=>by cases a
 |.st _,_,_,_,_,_,_,_,a,_,_,_,_=>by cases a
 |.eB,_,_,_,_,_,_,_,a,_,_,_,_=>by cases a
 |.mp _,_,_,_,_,_,_,_,a,_,_,_,_=>by cases a
 |.e1 _ _,_,_,_,_,_,_,_,a,_,_,_,_=>by cases a
 |.fn _ _,_,_,_,_,_,_,_,a,_,_,_,_=>by cases a
theorem WE (o:ic.ae E C) {H:bS} {w:bA} (b:EB ic (aU i.g) H=Y (a,w)):eX E C H i (λci=>ci=⟨(a,.val .bool w)::i.g,i.h⟩):=by
 unfold EB at b;split at b
 case h_2=>cases b
 rename_i R c s u d4 ap a0;split at b
 case h_2=>cases b
 rename_i co e I d6 dl B U V;cases j:eQ c ic.eq&&(AM e&&(a9 co (.st e)&&gu ic.n ic.pin R)) with
 |false=>rw[j] at b;cases b
 |true=>
 rw[j,bH] at b;obtain⟨J,a1,b⟩:=fl.1 b;cases b;simp only[cE] at j;obtain⟨L,M,N,O⟩:=j;rw[o.1] at B;have am:=(E.ok c _ B).lay N;have an:=E.eqok c (by rw[<-o.2.2.2.1.2.2.2.2.2];exact g8.1 L);cases kv a1;obtain⟨_,dg,A,d5,ay,ds,d0,d1,r,bs,d2⟩:=am;obtain⟨ao,S,ad,z,T⟩:=an;rw[r] at z;obtain rfl:A=ad:=(by simpa using z);rintro f k ⟨cs,d3,c1,m⟩ next cv c2
 have p:=m.aU s;have q:=m.aU u;rw[U] at p;rw[V] at q;obtain⟨v1,F⟩:∃l,l=f.eval s:=⟨_,bo⟩;obtain⟨nh,G⟩:∃l,l=f.eval u:=⟨_,bo⟩;rw[<-F] at p;rw[<-G] at q;cases p with|val bx=>cases q with|val ce=>
 rename_i x y;have a3:f.eval s=.agg x.toArray:=F.symm;have a4:f.eval u=.agg y.toArray:=G.symm;have D:E.P.fieldsOf c=A:=(by unfold Program.fieldsOf;rw[r]);have av:(ak3 10000 c (.agg x.toArray) (.agg y.toArray)).run E.P k=.ok (sY e I J) k:=(by rw[run_equalIn_struct k 9999 c _ _ (by rw[D];exact r) ao,D];exact N2 (t:=e) (off:=0) (d:=9998) M bs T (by rw[mT];exact bx) (by rw[mT];exact ce));refine al0 (Q:=λK bl=>K=.val .bool (sY e I J)/\bl=[]) m (.pure (v:=.bool _) (by simp only[bO,a0,a3,a4,bY,run_eqGuard_agg k _ _ _ _ _ _ S,b2,run_eql_struct,av];rfl) (.bool _) ⟨bo,bo⟩) ap (gu.ok o O) ?_;grind
theorem OS (j:ic.ae E C) {p:bU bS} {m:bS} {q:aO->bw A} {s:A} (k:p[a]?=Y m) (l:k3 p i m bp) (c:i1 ic i m q=Y s) (D:∀d,q d=Y s->h7 E C p f d u):h7 E C p (a::f) i u:=
by
 unfold i1 at c;split at c
 ·rename_i o H y b;obtain⟨J,x,c⟩:=eL.1 c;refine aly k l ((afb j b x).mono (λd e=>?_));grind
 split at c
 ·rename_i o n b;have w:Bu ic (aU i.g) i.h m=Y (o,n)\/EB ic (aU i.g) m=Y (o,n):=by
   cases r:Bu ic (aU i.g) i.h m with
   |none=>rw[r,Option.none_or] at b;exact .inr b
   |some I=>rw[r,Option.some_or] at b;exact .inl b
  rcases w with b|b
  ·refine aly k l ((adg j b).mono (λd e=>?_));grind
  refine aly k l ((WE j b).mono (λd e=>?_));grind
 split at c
 ·rename_i o y b;obtain⟨z,B⟩:=Zo c;refine aly k l ((Zp j b).mono (λd e=>?_));obtain⟨n,rfl,F⟩:=e;cases n with
  |false=>grind
  |true=>grind
 split at c
 ·rename_i id d G e;exact aly k l ((Wp j e c).mono (λd ⟨t,v,e⟩=>by grind))
 exact aly k l ((NQ j c).mono (λd ⟨t,v,e⟩=>by grind))
theorem AU {l2:ajZ} (d:ic.ae E C) {q:bU bS} {s:aO->bw A} {y:A} {t:aO->Prop} (f:∀k,s k=Y y->h7 E C q l2 k t):∀{p:ajZ} {b:aO},ll ic q p b s=Y y->h7 E C q (p++l2) b t
 |[],b,a=>f _ a
 |i::p,b,a=>by
  simp only[ll] at a;split at a
  ·cases a
  rename_i H j;split at a
  ·rename_i z;exact OS d j (by grind [k3]) a (λk c=>AU d f c)
  rename_i G l z;split at a
  case h_2=>cases a
  rename_i v u D x;split at a
  case h_3=>cases a
  case h_2=>
   rename_i I B;cases c:gu ic.n ic.pin u with
   |false=>grind
   |true=>
   rw[c] at a;have o:=gu.ok d c;refine h7.skip j x o ?_ (AU d f a);grind [k3]
  rename_i m B;cases c:gu ic.n ic.pin u with
  |false=>grind
  |true=>
  rw[c] at a;have o:=gu.ok d c;simp only[bH] at a;split at a
  ·rename_i w;obtain rfl:m=l:=(by grind);have r:∀e,gt (⟨(v,.val .bool m)::b.g,b.h⟩:aO).g e=gt b.g e:=λe=>by
    grind [i4]
   refine h7.same r bo (OS d j ?_ a (λk c=>AU d f c));grind [k3]
  rename_i w;have F:m=!l:=by cases m<;>cases l<;>first|rfl|cases w
  have r:∀e,gt (⟨(v,.val .bool (!l))::b.g,b.h⟩:aO).g e=gt b.g e:=λe=>(by grind [i4]);refine h7.same r bo (h7.skip j x o ?_ (AU d f a));grind [k3]
theorem XM (h:ic.ae E C) {c:bU bS} {b:aO->bw A} {d:A} (g:∀a,b a=Y d->u a) (e:ll ic c f i b=Y d):h7 E C c f i u:=by have:=AU (l2:=[]) h (λa j=>h7.nil (g a j)) e;grind
end
end
structure kI (s t:aO):Prop where
 g:∀k,gt s.g k=gt t.g k
 h:∀id,aq s.h id=aq t.h id
def kI.refl (a:aO):kI a a:=⟨λ_=>rfl,λ_=>rfl⟩
def kI.symm {c d:aO} (b:kI c d):kI d c:=⟨λa=>(b.g a).symm,λa=>(b.h a).symm⟩
theorem kI.trans {d e f:aO} (b:kI d e) (c:kI e f):kI d f:=⟨λa=>(b.g a).trans (c.g a),λa=>(b.h a).trans (c.h a)⟩
def cI.uE (a:cI) (e:aO) (b:X):gt (a.app e).g b=match a.d with
 |some (c,f)=>if c=b then f else fC a.S a.keep (gt e.g b)
 |none=>fC a.S a.keep (gt e.g b):=by
 obtain⟨c,h,i,k⟩:=a;cases c with
 |none=>
  show gt (nK h i e.g) b=_;rw[td,p7]
 |some j=>
  obtain⟨c,f⟩:=j;show gt ((c,f)::nK h i e.g) b=_;rw[i4,td,p7]
theorem cI.sk (a:cI) (b:aO) (id:X):aq (a.app b).h id=(aq a.put id).or (if id∈a.S then bq else aq b.h id):=by show aq (a.put++q6 a.S b.h) id=_;rw[xW,kV,m7]
def kI.app {c t:aO} (b:kI c t) (a:cI):kI (a.app c) (a.app t):=
 ⟨λd=>by rw[cI.uE,cI.uE,b.g],λd=>by rw[cI.sk,cI.sk,b.h]⟩
def gC.seq {a:eW} {c:aO} {d:ajR} (b:kI i c) (e:gC a i d v):gC a c d v:=e.less (λf=>.inr (b.g f).symm) (λid=>(b.h id).symm)
def Et:bw (X×al)->ajV->bA
 |some b,Y a=>bI b.1 a
 |none,bq=>bp
 |_,_=>br
def tz:al->bA
 |.dead=>br
 |_=>bp
def pu (b c:ajZ):bA:=b.all λa=>eQ a c
theorem pu.ok (b:pu f w=bp):∀a∈f,a∈w:=λa c=>g8.1 (gU.1 b a c)
def pq (a:ajZ):al->bA
 |.ref id []=>eQ (id+500000) a
 |_=>br
def yc:Op->bA
 |.move _=>bp
 |_=>br
def ER:X->bn aZ->bw (X×bn aZ)
 |k,.snd::a=>ER (k+1) a
 |k,.fst::a=>Y (k,a)
 |_,_=>bq
def x5:bn aZ->bw (X×bn aZ)
 |.deref::.unst::a=>ER 0 a
 |_=>bq
def s6 (q:bn aZ):ajV:=match q with
 |[]=>Y 1
 |[.deref]=>Y 2
 |q=>match x5 q with
  |some (a,[])=>Y (2*a+4)
  |some (a,_::_)=>Y (2*a+5)
  |none=>bq
def qR:al->bw et
 |.ref id a=>match s6 a with
  |some b=>Y (id,b)
  |none=>bq
 |.addr id a=>match s6 a with
  |some b=>Y (id,b)
  |none=>bq
 |.app id a _ _ d=>match eQ id d,x5 a with
  |false,Y (c,_)=>Y (id,2*c+5)
  |_,_=>bq
 |_=>bq
def tg (b:ajZ) (a:al):bA:=match qR a with
 |some (id,d)=>cf id 500000&&(eQ (id+1000000*d) b&&a.ids.all λc=>bI c id||eQ c b)
 |none=>br
def yG (b:bn aZ) (a:X):bA:=(bI a 1&&nH b)||((bI a 2&&nH b.tail&&(match b with|.deref::_=>bp|_=>br))||match x5 b with
 |some (c,d)=>b3 4 a&&(!(bI (a/2) (c+2))||(bI (a %2) 0&&nH d))
 |none=>br)
def sj (a:bP->al) (b:bS):bw (X×bn aZ):=match b.op with
 |.call {callee:=.builtin .append,args:=xs,argTypes:=_}=>match xs.toList with
  |[x,_]=>match a x with
   |.ref id (d::c)=>Y (id,d::c)
   |_=>bq
  |_=>bq
 |_=>bq
def Kp (c:ajZ) (b:bP->al) (d:bS):bA:=c.all λa=>cf a 1000000||(match sj b d with
 |some (id,e)=>bI (a %1000000) (id+500000)&&(cf id 500000&&yG e (a/1000000))
 |none=>br)
def X7 (a:ajZ) (c:bn (X×bn aZ)) (b:ajZ):bA:=b.all λid=>cf id 500000&&((eQ id a&&(eQ (id+500000) a||lp c (.ref id [])))||eQ (id+1500000) a)
def CE:al->bA
 |.e6 b=>b.all tz
 |a=>tz a
def oG (op:Op) (b:ajZ) (a:al):bA:=match op with
 |.extract _ d=>match a with
  |.e6 e=>match e[d]? with
   |some c=>tz c&&(pu c.ids b||pq b c)
   |none=>br
  |_=>br
 |op=>CE a&&(pu a.ids b||((yc op&&pq b a)||tg b a))
def rk (c e:ajZ) (g:bP->al) (f:bS) (b:cI):bA:=
 Et b.d f.dst&&(f.op.operands.toList.all λh=>oG f.op c (g h))&&X7 e b.keep b.S&&(b.put.all λa=>cf a.1 500000&&(eQ a.1 e||eQ (a.1+1500000) e))&&((match b.d with|some a=>pu a.2.ids c||(pq c a.2||tg c a.2)|none=>bp)&&Kp e g f)
theorem qS {e:Type} (c:bA) (d:bw b) (a:b->bw e):(bif c then d else bq).bind a=bif c then d.bind a else bq:=by grind
theorem aeV (tt:bn (bG×ai)) (d:bn (X×aK)) (c:bG) (f e:al) (a:cI->bw b):rL tt d c f e a=(rL tt d c f e Y).bind a:=by
 unfold rL;split
 ·rfl
 split
 case h_2=>rfl
 split
 ·rfl
 rw[qS];congr 1;split
 ·grind
 ·grind
 grind
theorem JE (tt:bn (bG×ai)) (d:bn (X×aK)) (c:bG) (g e f:al) (a:cI->bw b):oE tt d c g e f a=(oE tt d c g e f Y).bind a:=by
 unfold oE;split
 case h_2=>rfl
 split
 case h_2=>rfl
 split
 case h_2=>rfl
 split
 case h_2=>rfl
 grind
theorem Y4 (tt:bn (bG×ai)) (e:bn (X×aK)) (d:X) (c:bG) (g f:al) (a:cI->bw b):rz tt e d c g f a=(rz tt e d c g f Y).bind a:=by
 unfold rz;split
 case h_2=>rfl
 split
 case h_2=>rfl
 split
 case h_2=>rfl
 split
 case h_2=>rfl
 split
 case h_2=>rfl
 grind
theorem WB (tt:bn (bG×ai)) (d:bn (X×aK)) (c:bG) (g e f:al) (a:cI->bw b):rh tt d c g e f a=(rh tt d c g e f Y).bind a:=by
 unfold rh;split
 case h_2=>rfl
 rw[qS,JE]
theorem YX (tt:bn (bG×ai)) (d:bn (X×aK)) (c:bG) (f e:al) (a:cI->bw b):ry tt d c f e a=(ry tt d c f e Y).bind a:=by
 unfold ry;split
 case h_2=>rfl
 split
 case h_2=>rfl
 split
 case h_2=>rfl
 split
 case h_2=>rfl
 grind
theorem UN (tt:bn (bG×ai)) (d:bn (X×ai)) (f:bn (X×aK)) (e:X) (c:bG) (g h:al) (a:cI->bw b):o4 tt d f e c g h a=(o4 tt d f e c g h Y).bind a:=by
 unfold o4;split
 ·rfl
 split
 ·split
  case h_2=>rfl
  rw[qS];congr 1;split
  ·grind
  grind
 ·split
  case h_2=>rfl
  split
  case h_2=>rfl
  grind
 ·split
  case h_2=>rfl
  grind
 ·grind
 rfl
theorem UQ (tt:bn (bG×ai)) (d:bn (X×ai)) (f:bn (X×aK)) (e:X) (c:bG) (g h:al) (a:cI->bw b):oh tt d f e c g h a=(oh tt d f e c g h Y).bind a:=by
 unfold oh;split
 ·unfold zx;split
  case h_2=>rfl
  split
  case h_2=>rfl
  grind
 grind [UN]
theorem VW (tt:bn (bG×ai)) (e:bn (X×aK)) (d:X) (c:bG) (f g:al) (a:cI->bw b):qT tt e d c f g a=(qT tt e d c f g Y).bind a:=by
 unfold qT;split
 ·rfl
 split
 ·split
  case h_2=>rfl
  grind
 ·split
  case h_2=>rfl
  grind
 rfl
theorem Vd (tt:bn (bG×ai)) (d:bn (X×ai)) (g:bn (X×aK)) (f:bP->al) (e:X) (c:bG) (h:bn (X×bP)) (a:cI->bw b):sp tt d g f e c h a=(sp tt d g f e c h Y).bind a:=by
 unfold sp;split
 ·rfl
 split
 ·rw[qS];congr 1;split
  ·grind
  rfl
 rw[qS];congr 1;split
 ·rfl
 split
 ·grind
 rfl
theorem Vg (tt:bn (bG×ai)) (d:bn (X×ai)) (f:bn (X×aK)) (e:X) (c:bG) (g:al) (a:cI->bw b):uI tt d f e c g a=(uI tt d f e c g Y).bind a:=by
 unfold uI;split
 ·split
  ·grind
  ·grind
  rfl
 rfl
theorem Vk (tt:bn (bG×ai)) (d:bn (X×ai)) (g:bn (X×aK)) (f:bP->al) (e:X) (c:bG) (h:X) (i:bn (X×bP)) (a:cI->bw b):sr tt d g f e c h i a=(sr tt d g f e c h i Y).bind a:=by
 unfold sr;split
 ·grind
 rfl
theorem AE {e:gJ} (c:bP->al) (d:bn (X×aK)) (f:bS) (a:cI->bw b):ao e c d f a=(ao e c d f Y).bind a:=by
 unfold ao;split
 ·split
  ·grind [aeV]
  ·grind [JE]
  ·grind [JE]
  ·grind [WB]
  ·grind [YX]
  rfl
 rw[qS];congr 1;split
 ·grind
 ·split
  case h_2=>rfl
  split
  ·rfl
  simp_all [nG,Option.bind_assoc,qS,aI]
 ·split
  case h_2=>rfl
  rw[qS];grind [UQ]
 ·grind [VW]
 ·split
  ·rfl
  ·rfl
  ·rfl
  ·grind
  grind
 ·grind [Vd]
 ·grind [Y4]
 ·grind [Vg]
 ·grind [Vk]
 grind
theorem Wl {e:gJ} (c:bP->al) (d:bn (X×aK)) (f:bS) (a:cI->bw b):kx e c d f a=(kx e c d f Y).bind a:=by
 unfold kx;split
 ·grind [AE]
 rw[qS];congr 1;refine(AE _ _ _ _).trans (Eq.trans ?_ (b4 (λg=>bC g a) (AE _ _ _ _)).symm);grind
theorem Oy:∀{d:bn aZ} {b a:X} {e:bn aZ},ER b d=Y (a,e)->b<=a/\d=bJ (a-b) .snd++.fst::e
 |[],_,_,_,c=>by cases c
 |s::d,b,a,e,c=>by
  cases s<;>simp only[ER] at c<;>first|(cases c;done)|skip
  ·simp_all
  obtain⟨g,f⟩:=Oy c;refine⟨aa,?_⟩;rw[(aa:a-b=(a-(b+1))+1),List.replicate_succ,n1,<-f]
theorem ES {c:bn aZ} (b:x5 j=Y (a,c)):j=.deref::.unst::(bJ a .snd++.fst::c):=by
 unfold x5 at b;split at b
 ·rename_i j;have:=(Oy b).2;grind
 grind
def Ie:∀{j k:X} {r r':bn aZ},j≠k->lf (bJ j .snd++.fst::r) (bJ k .snd++.fst::r')=bp
 |0,0,_,_,a=>absurd rfl a
 |0,k+1,_,_,_=>rfl
 |j+1,0,_,_,_=>rfl
 |j+1,k+1,r,r',a=>Ie (j:=j) (k:=k) (r:=r) (r':=r') (λb=>a (by rw[b]))
def O5:∀{j:X} {r:bn aZ},g7 (bJ j .snd++.fst::r) (bJ j .snd++[.fst])=nH r
 |0,r=>by cases r<;>rfl
 |j+1,r=>O5 (j:=j) (r:=r)
def O4 (a:bn aZ):g7 a []=nH a:=by cases a<;>rfl
def acV (c:s6 j=Y a):(a=1↔j=[])/\(a=2↔j=[.deref])/\(4<=a->∃d e,x5 j=Y (d,e)/\((e=[]/\a=2*d+4)\/(e≠[]/\a=2*d+5)))/\(a=1\/a=2\/4<=a):=by
 unfold s6 at c;split at c
 ·cases c;simp
 ·cases c;simp
 rename_i g h;split at c
 ·rename_i d f;cases c;refine⟨⟨λb=>by omega,λb=>absurd b g⟩,⟨λb=>by omega,λb=>absurd b h⟩,λ_=>⟨d,[],f,.inl ⟨bo,bo⟩⟩,aa⟩
 ·rename_i d i e f;cases c;refine⟨⟨λb=>by omega,λb=>absurd b g⟩,⟨λb=>by omega,λb=>absurd b h⟩,λ_=>⟨d,i::e,f,.inr ⟨ac,bo⟩⟩,aa⟩
 cases c
def acW {i:bn aZ} (b:yG j a=bp) (s:s6 i=Y a):g7 j i=bp:=by
 obtain⟨l,m,n,w⟩:=acV s;unfold yG at b;rcases Cd.1 b with b|b
 ·obtain⟨c,f⟩:=rW.1 b;rw[l.1 (ff c),O4];exact f
 rcases Cd.1 b with b|b
 ·obtain⟨b,g⟩:=rW.1 b;obtain⟨c,f⟩:=rW.1 b;rw[m.1 (ff c)];cases j with
  |nil=>cases g
  |cons v j=>
   cases v<;>first|(cases g;done)|skip
   show g7 j []=bp;rw[O4];exact f
 split at b
 ·rename_i d k t;obtain⟨o,b⟩:=rW.1 b;obtain⟨h,u,r,q⟩:=n (gL o);rw[ES r,ES t];show g7 (bJ d .snd++.fst::k) (bJ h .snd++.fst::u)=bp;by_cases c:d=h
  ·subst c;rcases q with⟨rfl,p⟩|⟨x,p⟩
   ·have ao:a/2=d+2:=aa;have e:a %2=0:=aa;rw[ao,e] at b;have:nH k=bp:=(by simpa using b);rw[O5,this]
   have ao:a/2=d+2:=aa;have e:a %2=1:=aa;rw[ao,e] at b;simp at b
  exact Ic (Ie c)
 cases b
theorem acU {id:X} (b:yG j a=bp) (i:qR d=Y (id,a)) (n:∀c∈d.ids,c=id\/c∉f):kz f [(id,j),(id,[])] d=bp:=by
 have z:∀h,s6 h=Y a->g7 j h=bp:=λh p=>acW b p;have v:∀g:X,bI g g=bp:=alT;unfold qR at i;split at i
 ·grind [kz,lp]
 ·grind [kz,lp,I5]
 ·rename_i g h B A l;split at i
  case h_2=>cases i
  rename_i k t x o;cases i;have w:lf j h=bp:=by
   unfold yG at b;rcases Cd.1 b with b|b
   ·have:=ff (rW.1 b).1;omega
   rcases Cd.1 b with b|b
   ·have:=ff (rW.1 (rW.1 b).1).1;omega
   split at b
   ·rename_i c s q;obtain⟨_,b⟩:=rW.1 b;rw[ES o,ES q];show lf (bJ c .snd++.fst::s) (bJ k .snd++.fst::t)=bp;by_cases e:c=k
    ·subst e;have ao:(2*c+5)/2=c+2:=aa;have m:(2*c+5) %2=1:=aa;rw[ao,m] at b;simp at b
    exact Ie e
   cases b
  have y:(l.all λg=>!(eQ g f))=bp:=gU.2 λu r=>by
   rcases n u (g3 _ r) with e|e
   ·grind [g8]
   grind [g8]
  show((l.all λg=>!(eQ g f))&&([(id,j),(id,[])].any λe=>bI e.1 id&&lf e.2 h))=bp;grind
 grind
section
theorem JA {g B:bP->al} {b:bn (X×bP)} (d:∀e∈b,g e.2=B e.2):∀(f:ai) (a:X),qb g b f a=qb B b f a
 |.pr j h,a=>by
  simp only[qb,JA d h (a+1)];cases i:l9 b a with
  |none=>rfl
  |some c=>
   have:g c=B c:=d (a,c) (AZ i);grind
 |.nil,_=>rfl
 |.int _,_=>rfl
 |.bool,_=>rfl
 |.str,_=>rfl
 |.a6 _ _,_=>rfl
 |.ptr _ _,_=>rfl
 |.osl _,_=>rfl
 |.optr _,_=>rfl
 |.st _,_=>rfl
 |.eB,_=>rfl
 |.mp _,_=>rfl
 |.e1 _ _,_=>rfl
 |.fn _ _,_=>rfl
theorem PL {h:bn (X×aK)} {g B:bP->al} {b:bn (X×bP)} (d:∀e∈b,g e.2=B e.2):∀(f:ai) (a:X),m9 h g b f a=m9 h B b f a
 |.pr k i,a=>by
  simp only[m9,PL d i (a+1)];cases j:l9 b a with
  |none=>rfl
  |some c=>
   have:g c=B c:=d (a,c) (AZ j);grind
 |.nil,_=>rfl
 |.int _,_=>rfl
 |.bool,_=>rfl
 |.str,_=>rfl
 |.a6 _ _,_=>rfl
 |.ptr _ _,_=>rfl
 |.osl _,_=>rfl
 |.optr _,_=>rfl
 |.st _,_=>rfl
 |.eB,_=>rfl
 |.mp _,_=>rfl
 |.e1 _ _,_=>rfl
 |.fn _ _,_=>rfl
section
variable {tt:bn (bG×ai)} {an:bn (X×ai)} {h A:bn (X×aK)} {d:X} {g B:bP->al}
theorem FM {a:ajQ} (c:∀b∈a.toArray,g b=B b):a.map g=a.map B:=by
 cases a with
 |none=>rfl
 |some b=>grind
theorem WF {f:Op} (b:∀a∈f.operands,g a=B a):gY tt an h g d f=gY tt an h B d f:=by
 cases f
 case build T ps=>
  have:∀e∈ps.toList,g e.2=B e.2:=λe m=>b e.2 (by simp only[bV,zh,fe];grind);grind [JA,gY,zF]
 case buildSlice T n ps=>
  have:∀e∈ps.toList,g e.2=B e.2:=λe m=>b e.2 (by simp only[bV,zh,fe];grind);grind [akt,gY,xg]
 case slice T a j hi p=>
  simp only[bV] at b;have t:g a=B a:=b a ac;have u:j.map g=j.map B:=FM (λi o=>b i (by grind));have v:hi.map g=hi.map B:=FM (λi o=>b i (by grind));cases p
  ·grind [gY]
  rfl
 case makeMap T q=>
  cases q<;>rfl
 case makeFunc l s cs=>
  cases l<;>try rfl
  grind [akt,akF,gY,bV]
 case call c=>
  obtain⟨r,k,y⟩:=c;have w:∀a∈k.toList,g a=B a:=λa x=>b a (by grind [akF,bV,akx]);clear b;simp only[gY];split
  ·grind
  ·grind [akt]
  ·grind [akt]
  rfl
 all_goals (simp only[bV] at b;simp only[gY])
 all_goals (first|rfl|(simp_all;done))
theorem WI {e:Op} (b:∀a∈e.operands,g a=B a):kS tt an h g d e=kS tt an h B d e:=by
 cases e
 case slice T a j hi l=>
  simp only[bV] at b;have i:g a=B a:=b a ac;have n:j.map g=j.map B:=FM (λf k=>b f (by grind));have o:hi.map g=hi.map B:=FM (λf k=>b f (by grind));cases l
  ·simp_all [kS]
  rfl
 case call c=>
  grind [akF,ao,kS,bV,akx]
 case unOp m T a=>
  have i:g a=B a:=b a (by simp[bV]);cases m<;>simp only[kS,i]
 all_goals (simp only[bV] at b;simp only[kS])
 all_goals (first|rfl|(simp_all;done))
theorem NM {k:gJ} {n:bS} {r:cI->bw b} (c:∀j∈n.op.operands,g j=B j):ao k g h n r=ao k B h n r:=by
 have x:=λ(d:X)=>WI (tt:=k.tt) (an:=k.an) (h:=h) (d:=d) c;have w:=λ(d:X)=>WF (tt:=k.tt) (an:=k.an) (h:=h) (d:=d) c;unfold ao;cases y:n.dst with
 |none=>
  simp only;split
  ·grind [bV]
  ·grind [bV]
  ·grind [bV]
  ·grind [bV]
  ·rename_i i t e;rw[e] at c;split
   ·rename_i j u l s ao _;have p:∀a∈i.toList,g a=B a:=λa m=>c a (by grind [akF,bV,akx]);grind
   rfl
  rfl
 |some d=>
  simp only;congr 1;split
  ·grind [bV]
  ·rename_i a i _ e;rw[e] at c;have:i.toList.map g=i.toList.map B:=ju λj p=>c j (by grind [akF,bV,akx]);have m:g a=B a:=c a (by simp[bV,akx]);rw[this,m]
  ·rename_i i t e;rw[e] at c;split
   ·rename_i j u l s ao _;have p:∀a∈i.toList,g a=B a:=λa m=>c a (by grind [akF,bV,akx]);grind
   rfl
  ·rename_i i t e;rw[e] at c;split
   ·rename_i j u l s ao _;have p:∀a∈i.toList,g a=B a:=λa m=>c a (by grind [akF,bV,akx]);grind
   rfl
  ·grind [bV]
  ·rename_i l q e;rw[e] at c;have o:∀f∈q.toList,g f.2=B f.2:=λf v=>c f.2 (by simp only[bV,zh,fe];grind);simp only[sp,JA o,PL o]
  ·grind [bV]
  ·grind [bV]
  ·rename_i l z q e;rw[e] at c;have o:∀f∈q.toList,g f.2=B f.2:=λf v=>c f.2 (by simp only[bV,zh,fe];grind);grind [akt,sr]
  grind
def fX (h A:bn (X×aK)) (a:al):Prop:=∀id∈a.ids,aq h id=aq A id
def ac2 (a:fX h A t):rF h t=rF A t:=by
 cases t with
 |ref id b=>simp only[rF,a id (by simp[bT])]
 |_=>rfl
theorem ac1 {id:X} (a:rF h t=Y (id,j)):id∈t.ids:=by
 unfold rF at a;split at a
 ·grind [bT]
 ·grind [bT]
 grind
theorem aeW {a:al} {d:cI->bw b} (e:fX h A a) (g:fX h A t):rL tt h c a t d=rL tt A c a t d:=by
 unfold rL;rw[<-ac2 e];split
 ·rfl
 rename_i id j f;rw[e id (ac1 f)];cases t with
 |ref i k=>simp only[g i (by simp[bT])]
 |_=>rfl
theorem Tr (a:fX h A t):lz h k t=lz A k t:=by
 cases t with
 |ref id b=>simp only[lz,a id (by simp[bT])]
 |view id b e d=>simp only[lz,a id (by simp[bT])]
 |val c g=>cases c<;>rfl
 |dd f=>unfold lz;grind
 |_=>rfl
theorem UO {e:al} {j:cI->bw b} (f:fX h A e) (k:fX h A t) (n:aq h d=aq A d):o4 tt an h d c e t j=o4 tt an A d c e t j:=by
 unfold o4;split
 ·rfl
 have g:∀i:ai,lz h i t=lz A i t:=λi=>Tr k;cases e with
 |ref id a=>
  cases a with
  |nil=>
   simp only[f id (by simp[bT]),g];cases t with
   |ref o l=>
    cases l with
    |nil=>simp only[k o (by simp[bT])]
    |cons m l=>rfl
   |_=>rfl
  |cons m a=>simp only[f id (by simp[bT]),g,n]
 |view id a q p=>
  cases a with
  |nil=>simp only[f id (by simp[bT]),g]
  |cons m a=>rfl
 |dd r=>grind
 |_=>rfl
def acL {a:al} (d:fX h A t):vX h a t=vX A a t:=by
 unfold vX;cases a with
 |ref id b=>
  cases b with
  |nil=>rfl
  |cons f b=>
   cases t with
   |ref e c=>
    cases c with
    |nil=>simp only[d e (by simp[bT])]
    |cons g c=>rfl
   |_=>rfl
 |_=>rfl
theorem UR {a:al} {e:cI->bw b} (g:fX h A t) (i:fX h A a) (f:aq h d=aq A d):oh tt an h d c t a e=oh tt an A d c t a e:=by
 unfold oh;rw[acL i,UO g i f];split
 ·rename_i id l k m j;obtain⟨rfl,_,_⟩:=Kl j;unfold zx;rw[g id (by simp[bT]),f]
 rfl
theorem VX {e:al} {g:cI->bw b} (i:fX h A e) (k:fX h A t):qT tt h d c e t g=qT tt A d c e t g:=by
 unfold qT;split
 ·rfl
 have j:∀f:ai,lz h f t=lz A f t:=λf=>Tr k;cases e with
 |ref id a=>
  cases a with
  |nil=>simp only[i id (by simp[bT]),j]
  |cons l a=>rfl
 |view id a n m=>
  cases a with
  |nil=>simp only[i id (by simp[bT]),j]
  |cons l a=>rfl
 |_=>rfl
theorem Hc (b:fX h A t):pS an h d t=pS an A d t:=by
 cases t with
 |ref id a=>
  cases a with
  |nil=>simp only[pS,b id (by simp[bT])]
  |cons c a=>rfl
 |view id a f e=>
  cases a with
  |nil=>simp only[pS,b id (by simp[bT])]
  |cons c a=>rfl
 |dd t=>unfold pS;grind
 |_=>rfl
def acR (b:fX h A t):yE h k t=yE A k t:=by
 cases t with
 |ref id a=>
  cases a with
  |nil=>simp only[yE,b id (by simp[bT])]
  |cons c a=>rfl
 |_=>rfl
def PM {b:bn (X×bP)} (c:∀i∈b,fX h A (g i.2)):∀(d:ai) (a:X),m9 h g b d a=m9 A g b d a
 |.pr k e,a=>by
  simp only[m9,PM c e (a+1)];cases f:l9 b a with
  |none=>rfl
  |some j=>simp only[acR (c (a,j) (AZ f))]
 |.nil,_=>rfl
 |.int _,_=>rfl
 |.bool,_=>rfl
 |.str,_=>rfl
 |.a6 _ _,_=>rfl
 |.ptr _ _,_=>rfl
 |.osl _,_=>rfl
 |.optr _,_=>rfl
 |.st _,_=>rfl
 |.eB,_=>rfl
 |.mp _,_=>rfl
 |.e1 _ _,_=>rfl
 |.fn _ _,_=>rfl
def VE (b:fX h A t):uL h k t=uL A k t:=by
 cases t with
 |ref id a=>
  cases a with
  |nil=>simp only[uL,b id (by simp[bT])]
  |cons c a=>rfl
 |_=>rfl
theorem Nd {c:ai}:∀{l:bn al},(∀a∈l,fX h A a)->uM h c l=uM A c l
 |[],_=>rfl
 |x::d,b=>by simp only[uM,VE (b x ac),Nd (l:=d) (λa e=>b a (by grind))]
def Ha {v:al} (a:fX h A v):nC h f v k=nC A f v k:=by
 cases v with
 |ref id b=>simp only[nC,a id (by simp[bT])]
 |_=>rfl
theorem al.Ju {f:X} {a:bn al} {id:X} (c:t∈a) (e:id∈t.ids):id∈(al.da f a).ids:=by obtain⟨b,d,rfl⟩:=hG.1 c;exact al.A5 (l:=a) (i:=b) (bk d) e
def MS (a:fX h A t):uJ h f t k=uJ A f t k:=by
 unfold uJ;split
 ·rename_i b d;rw[Ha (v:=b) (λid c=>a id (by simpa[bT] using c))]
 exact Ha a
def MU {c:ajZ}:∀{l:bn al} {b:ai},(∀a∈l,fX h A a)->ss h c l b=ss A c l b
 |[],b,_=>by cases b<;>rfl
 |a::l,b,d=>by
  cases b<;>first|rfl|skip
  simp only[ss,MS (d a ac),MU (l:=l) (λa e=>d a (by simp[e]))]
def Vw (a:fX h A t):xj h w t k=xj A w t k:=by
 unfold xj;split
 ·rename_i e b i j;rw[MU (l:=b) (λg c id d=>a id (by
   have:=al.Ju (f:=e) c d;simpa[bT] using this))]
 exact MS a
theorem OC {b:ajZ}:∀{τs:bn ai} {avs:bn al},(∀a∈avs,fX h A a)->pb h b τs avs=pb A b τs avs
 |[],[],_=>rfl
 |[],_::_,_=>rfl
 |_::_,[],_=>rfl
 |τ::e,d::as,c=>by simp only[pb,Vw (c d ac),OC (τs:=e) (avs:=as) (λa f=>c a (by grind))]
theorem ta {S:ajZ}:∀{ps:bn ho} {avs:bn al},(∀b∈avs,fX h A b)->fJ h S ps avs=fJ A S ps avs
 |[],[],_=>rfl
 |[],_::_,_=>rfl
 |p::d,[],_=>by cases p<;>rfl
 |.v q::d,e::as,a=>by simp only[fJ,Ha (a e ac),ta (ps:=d) (avs:=as) (λb g=>a b (by grind))]
 |.c z r::d,e::as,a=>by
  have f:=ta (S:=S) (ps:=d) (avs:=as) (λb g=>a b (by grind));cases e with
  |da u i=>
   have:pb h S r i=pb A S r i:=OC (λb g id t=>a (.da u i) ac id (al.Ju g t));grind [fJ]
  |_=>rfl
 |.m q::d,e::as,a=>by
  have f:=ta (S:=S) (ps:=d) (avs:=as) (λb g=>a b (by grind));cases e with
  |ref id p=>
   cases p with
   |nil=>simp only[fJ,a (.ref id []) ac id (by simp[bT]),f]
   |cons l p=>rfl
  |_=>rfl
 |.o q::d,e::as,a=>by
  have f:=ta (S:=S) (ps:=d) (avs:=as) (λb g=>a b (by grind));cases e with
  |ref id p=>
   cases p with
   |nil=>simp only[fJ,a (.ref id []) ac id (by simp[bT]),f]
   |cons l p=>rfl
  |dd x=>grind [fJ]
  |_=>rfl
 |.w B::d,e::as,a=>by
  have f:=ta (S:=S) (ps:=d) (avs:=as) (λb g=>a b (by grind));cases e with
  |view id p k j=>
   cases p with
   |nil=>simp only[fJ,a (.view id [] k j) ac id (by simp[bT]),f]
   |cons l p=>rfl
  |_=>rfl
 |.n::d,e::as,a=>by
  have f:=ta (S:=S) (ps:=d) (avs:=as) (λb g=>a b (by grind));cases e with
  |dd x=>grind [fJ]
  |_=>rfl
 |.s y i::d,e::as,a=>by
  have f:=ta (S:=S) (ps:=d) (avs:=as) (λb g=>a b (by grind));cases e with
  |ref id p=>grind [fJ]
  |view id p k j=>grind [fJ]
  |_=>simp only[fJ,f]
theorem Yv (a:fX h A t):vG tt h c t=vG tt A c t:=by
 unfold vG;cases t with
 |ref id d=>simp only[a id (by simp[bT])]
 |app id d b i e=>simp only[a id (by simp[bT])]
 |val b j=>cases gR tt c with|none=>rfl|some f=>cases b<;>rfl
 |dd g=>grind
 |_=>rfl
theorem Zc (a:fX h A t):vN tt h c t=vN tt A c t:=by
 unfold vN;cases t with
 |ref id d=>simp only[a id (by simp[bT])]
 |val b f=>cases ln tt c with|none=>rfl|some e=>cases b<;>rfl
 |_=>rfl
def YE {a:al} {b:bA} (d:fX h A t):vJ tt h c t a b=vJ tt A c t a b:=by
 unfold vJ;cases t with
 |ref id f=>simp only[d id (by simp[bT])]
 |val e g=>split<;>first|rfl|(cases e<;>rfl)
 |_=>split<;>rfl
theorem Za (a:aq h d=aq A d):yr tt an h d c=yr tt an A d c:=by grind [yr]
theorem JF {a:cI->bw b} {d e:al} (f:fX h A t):oE tt h c t d e a=oE tt A c t d e a:=by
 unfold oE;cases t with
 |ref id g=>simp only[f id (by simp[bT])]
 |_=>rfl
theorem Y5 {a:cI->bw b} {e:al} (f:fX h A t):rz tt h d c t e a=rz tt A d c t e a:=by
 unfold rz;cases t with
 |ref id g=>simp only[f id (by simp[bT])]
 |_=>rfl
theorem WC {a:cI->bw b} {d e:al} (f:fX h A t):rh tt h c t d e a=rh tt A c t d e a:=by unfold rh;grind [JF]
theorem YY {a:cI->bw b} {d:al} (e:fX h A t):ry tt h c t d a=ry tt A c t d a:=by
 unfold ry;cases t with
 |ref id f=>simp only[e id (by simp[bT])]
 |_=>rfl
def XN {b:al} (a:fX h A t):vA tt h c t b=vA tt A c t b:=by
 unfold vA;cases t with
 |ref id d=>simp only[a id (by simp[bT])]
 |view id d g f=>simp only[a id (by simp[bT])]
 |val e j=>cases e<;>rfl
 |dd i=>rfl
 |_=>rfl
theorem YB (a:fX h A t):vI tt h c t=vI tt A c t:=by
 unfold vI;cases t with
 |ref id b=>simp only[a id (by simp[bT])]
 |addr id b=>simp only[a id (by simp[bT])]
 |val d f=>cases d<;>first|rfl|grind
 |dd e=>rfl
 |_=>rfl
theorem W2 (b:fX h A t):vu tt h c t a=vu tt A c t a:=by
 unfold vu;cases t with
 |ref id d=>simp only[b id (by simp[bT])]
 |addr id d=>simp only[b id (by simp[bT])]
 |val e g=>cases e<;>first|rfl|grind
 |dd f=>rfl
 |_=>rfl
def W4 (b:fX h A t):jt.x2 tt h c t a=jt.x2 tt A c t a:=by
 unfold jt.x2;cases t with
 |ref id e=>simp only[b id (by simp[bT])]
 |val d g=>cases d<;>rfl
 |dd f=>rfl
 |_=>rfl
def Zm (a:fX h A t):vQ h t=vQ A t:=by
 unfold vQ;cases t with
 |ref id c=>simp only[a id (by simp[bT])]
 |val b e=>cases b<;>rfl
 |dd d=>rfl
 |_=>rfl
def aeI {b a:bw al} (d:fX h A t):wi tt h c t b a=wi tt A c t b a:=by
 unfold wi;cases t with
 |ref id f=>simp only[d id (by simp[bT])]
 |val e i=>cases e<;>rfl
 |dd g=>rfl
 |_=>rfl
theorem YS {a:al} (b:aq h d=aq A d):vK tt an h d c a t=vK tt an A d c a t:=by grind [vK]
theorem UI (a:aq h d=aq A d):w5 tt an h d c=w5 tt an A d c:=by grind [w5]
theorem WG {e:Op} (b:∀a∈e.operands,fX h A (g a)) (f:aq h d=aq A d):gY tt an h g d e=gY tt an A g d e:=by
 cases e
 case box T a=>grind [gY,zG]
 case buildSlice T n ps=>grind [gY,xg]
 case alloc T=>exact UI f
 case makeSlice T l c=>exact YS f
 case makeMap T p=>
  cases p
  ·exact Za f
  rfl
 case lookup T a k ok=>exact YE (b a (by simp[bV]))
 case load T a=>exact YB (b a (by simp[bV]))
 case nilCheck a=>exact Zm (b a (by simp[bV]))
 case indexAddr T a i=>exact XN (b a (by simp[bV]))
 case fieldAddr T a n=>exact W2 (b a (by simp[bV]))
 case field T a n=>exact W4 (b a (by simp[bV]))
 case slice T a u hi o=>
  cases o
  ·exact aeI (b a (by simp[bV]))
  rfl
 case call c=>
  obtain⟨q,j,v⟩:=c;have s:∀a∈j.toList,fX h A (g a):=λa t=>b a (by grind [akF,bV,akx]);clear b;simp only[gY];split
  ·grind [Zc,Yv]
  ·rfl
  ·rfl
  rfl
 case makeFunc m r cs=>cases m<;>rfl
 all_goals rfl
theorem WJ {n:Op} (j:∀b∈n.operands,fX h A (g b)) (z:aq h d=aq A d):kS tt an h g d n=kS tt an A g d n:=by
 cases n
 case lookup f b k ok=>
  have a:=j b (by simp[bV]);simp only[kS];split
  ·rename_i w id e B ao r y;rw[r] at a;rw[a id (by simp[bT])]
  rfl
 case makeSlice f l c=>grind [kS]
 case unOp v f b=>cases v<;>rfl
 case indexAddr f b i=>
  have a:=j b (by simp[bV]);simp only[kS];revert a;cases g b with
  |ref id e=>intro a;simp only[a id (by simp[bT])]
  |view id e t s=>
   intro a;cases e with
   |nil=>simp only[a id (by simp[bT])]
   |cons=>rfl
  |val m p=>intro _;cases m<;>rfl
  |_=>intro _;rfl
 case load f b=>
  have a:=j b (by simp[bV]);simp only[kS];revert a;cases g b with
  |ref id e=>intro a;simp only[a id (by simp[bT])]
  |addr id e=>intro a;simp only[a id (by simp[bT])]
  |val m p=>intro _;cases m<;>rfl
  |_=>intro _;rfl
 case slice f b t s u=>
  have a:=j b (by simp[bV]);cases u
  ·simp only[kS];revert a;cases g b with
   |ref id e=>intro a;simp only[a id (by simp[bT])]
   |val m p=>intro _;cases m<;>rfl
   |_=>intro _;rfl
  rfl
 case call c=>
  obtain⟨x,q,C⟩:=c;have o:∀b∈q.toList,fX h A (g b):=λb a=>j b (by grind [akF,bV,akx]);clear j;simp only[kS];split
  ·rename_i b f ao _;rw[ao] at o;have a:=o b ac;cases gR tt f with
   |none=>
    revert a;cases g b with
    |ref id e=>intro a;simp only;rw[a id (by simp[bT])]
    |_=>intro _;rfl
   |some w=>
    revert a;cases g b with
    |ref id e=>intro a;simp only;rw[a id (by simp[bT])]
    |_=>intro _;rfl
  rfl
 all_goals rfl
theorem tr {b:Callee} {a:bU bP} {c:bU bG} (d:n∈a.toList):n∈(Op.call {callee:=b,args:=a,argTypes:=c}).operands:=by grind [akF,bV,akx]
theorem NN {t:gJ} {s:bS} (a:ao t g h s Y=Y q) (e:∀l∈s.op.operands,fX h A (g l)) (o:∀d,s.dst=Y d->aq h d=aq A d) (p:∀b∈q.put,aq h b.1=aq A b.1):ao t g A s Y=Y q:=by
 unfold ao at a|-;cases v:s.dst with
 |none=>
  rw[v] at a;simp only at a|-;split at a
  ·grind [aeW,bV]
  ·grind [JF,bV]
  ·grind [JF,bV]
  ·grind [WC,bV]
  ·grind [YY,tr]
  omega
 |some d=>
  rw[v] at a;have o:=o d v;simp only at a|-;cases G:gu t.n t.pin d with
  |false=>grind
  |true=>
  rw[G] at a;simp only[bH] at a|-;split at a
  ·omega
  ·rename_i J z _ i;rw[i] at e;split at a
   case h_2=>cases a
   rename_i D x I
   try rw[I]
   try simp only
   have F:∀j∈z.toList.map g++x,fX h A j:=λj k=>by
    rcases ha.1 k with k|k
    ·grind [tr]
    intro id N;exact e J (by simp[bV,akx]) id (by grind [al.Ju])
   split at a
   ·cases a
   rename_i c K;cases E:bI c.f D with
   |false=>grind
   |true=>
   rw[E] at a;simp only[bH,nG] at a|-;rw[<-ta F];obtain⟨j,k,a⟩:=eL.1 a;obtain⟨m,H,a⟩:=eL.1 a;simp only[k,H,aI];cases C:nD d ⟨[],h⟩ (z.toList.map g++x) (gz c.ps j m) (i7 c.rs (ig c.ps m)) with
   |false=>grind
   |true=>
   rw[C] at a;have L:nD d ⟨[],A⟩ (z.toList.map g++x) (gz c.ps j m) (i7 c.rs (ig c.ps m))=bp:=(by rw[<-C];unfold nD;congr 1;rw[wy,gU,gU];cases a;have w:∀b∈jb d (i5 (i7 c.rs (ig c.ps m))) 0 (i7 c.rs (ig c.ps m)),aq h b.1=aq A b.1:=λb w=>p b (by grind);grind);grind
  ·grind [UR,tr]
  ·grind [VX,tr]
  ·rename_i l i;rw[i] at e;have r:=e l (by simp[bV]);revert a r;cases g l with
   |val T S=>grind
   |dd R=>grind [Hc]
   |ref id u=>grind [Hc]
   |view id u O M=>grind [Hc]
   |_=>intro a _;exact a
  ·rename_i B y i;rw[i] at e;have p:∀b∈y.toList,fX h A (g b.2):=λb w=>e b.2 (by simp only[bV,zh,fe];grind);rw[<-a];simp only[sp,PM p,o]
  ·grind [Y5,bV]
  ·rename_i B l i;rw[i] at e;have r:=e l (by simp[bV]);rw[<-a];simp only[uI,o];revert r;cases g l with
   |ref id u=>
    intro r;cases u with
    |nil=>simp only[r id (by simp[bT])]
    |cons Q u=>rfl
   |_=>intro _;rfl
  ·rename_i B P y i;rw[i] at e;have p:∀j∈y.toList.map (λb=>g b.2),fX h A j:=λj k=>by
    obtain⟨b,w,rfl⟩:=fe.1 k;exact e b.2 (by simp only[bV,zh,fe];grind)
   rw[<-a];simp only[sr,Nd p,o]
  grind [WJ,WG]
end
theorem Tg {d:Op}:∀e∈rS d,e∈d.operands:=by
 intro e b;cases d<;>simp only[rS] at b<;>first|(cases b;done)|skip
 case assign y=>grind [bV]
 case box T y=>grind [bV]
 case build T ps=>grind [bV]
 case buildSlice T n ps=>grind [bV]
 case store T a v=>grind [bV]
 case mapUpdate T a k v=>grind [bV]
 case insert T a k v=>grind [bV]
 case entryStore T a k v=>grind [bV]
 case call c=>
  obtain⟨g,f,h⟩:=c;simp only at b;split at b
  ·exact tr b
  ·exact tr (List.mem_of_mem_drop b)
  grind
theorem EP {e:aj1} {f:X} {g:bP->al}:∀{a:bn bP},∀id∈mD e f g a,∃x∈a,g x=.ref id []
 |[],id,h=>by cases h
 |x::a,id,h=>by
  simp only[mD] at h;split at h
  ·rename_i j i;rw[Bool.cond_eq_ite] at h;split at h
   ·rcases fG.1 h with rfl|h
    ·grind
    obtain⟨d,c,b⟩:=EP id h;grind
   obtain⟨d,c,b⟩:=EP id h;grind
  obtain⟨d,c,b⟩:=EP id h;grind
theorem Ox {a:aj1} {c:X} {g B:bP->al}:∀{l:bn bP},(∀x∈l,g x=B x)->mD a c g l=mD a c B l
 |[],_=>rfl
 |x::l,b=>by simp only[mD,b x ac,Ox (l:=l) (λd e=>b d (by grind))]
theorem Ov {h A:bn (X×aK)} (c:∀id∈f,aq h id=aq A id) (a:al):gQ h f a=gQ A f a:=by
 cases a with
 |ref id b=>
  cases b with
  |nil=>
   grind [g8,eQ,gQ]
  |cons d b=>rfl
 |_=>rfl
theorem Xi {h A:bn (X×aK)} (d:∀id∈f,aq h id=aq A id) (a:al):iv h f a=iv A f a:=by
 by_cases c:∃b,a=.e6 b
 ·obtain⟨b,rfl⟩:=c;grind [akt,Ov,iv]
 grind [IH,Ov]
theorem Ou {h:bn (X×aK)}:∀id∈(gQ h f d).ids,id∈d.ids:=by
 intro id b;rcases mC h f d with⟨e,c,rfl,_,_,a⟩|⟨a,_⟩|⟨a,_⟩
 ·rw[a] at b;have:(rp c).ids=[]:=(by unfold rp;split<;>rfl);grind
 ·rw[a] at b;cases b
 grind
def OU {c:al->al} (d:∀a,∀id∈(c a).ids,id∈a.ids):∀{b:bn al} {id:X},id∈akV (b.map c)->id∈akV b
 |[],_,h=>h
 |a::b,id,h=>by simp only[hX,akV,ha] at h|-;exact h.imp (d a id) (OU d)
theorem Xh {h:bn (X×aK)}:∀id∈(iv h f d).ids,id∈d.ids:=by
 by_cases c:∃a,d=.e6 a
 ·obtain⟨a,rfl⟩:=c;exactλid b=>OU (λd=>Ou) b
 grind [IH,Ou]
theorem Wn {i:gJ} {g B:bP->al} {h A:bn (X×aK)} {b:bS} (c:kx i g h b Y=Y q) (o:∀a∈b.op.operands,g a=B a) (n:∀a∈b.op.operands,fX h A (g a)) (t:∀d,b.dst=Y d->aq h d=aq A d) (y:∀l∈q.put,aq h l.1=aq A l.1):kx i B A b Y=Y q:=by
 unfold kx at c|-;rw[<-Ox (λa f=>o a (Tg a f))];split
 ·rename_i j;rw[j] at c;rw[<-NM o];grind [NN]
 rename_i x;split at c
 ·grind
 have j:∀id∈mD i.p5 (vw b) g (rS b.op),aq h id=aq A id:=λid k=>(by obtain⟨a,f,q⟩:=EP id k;exact n a (Tg a f) id (by grind [bT]));generalize mD i.p5 (vw b) g (rS b.op)=e at c j|-;have r:nE A e=nE h e:=(by unfold nE;grind);rw[r];cases s:nE h e with
 |false=>grind
 |true=>
 rw[s] at c;simp only[bH] at c|-;rw[AE] at c|-;obtain⟨m,p,v⟩:=eL.1 c;have z:m.put=q.put:=(by grind);have w:ao i (λa=>iv A e (B a)) (del e A) b Y=Y m:=by
  rw[<-NM (g:=λa=>iv h e (g a)) (λa f=>by grind [Xi])];refine NN p (λa f id k=>?_) (λd u=>?_) (λl C=>?_)
  ·rw[m7,m7,n a f id (Xh id k)]
  ·rw[m7,m7,t d u]
  grind [m7]
 grind
end
section
def qd (D:bU bS) (a:X):ajZ:=match D[a]? with
 |some b=>(b.after.toList.filter (anz .any)).map (·.on)
 |none=>[]
def yU (a:X):cI:=⟨Y (a,.dd bW),[],[],[]⟩
def Ev (ic:gJ) {d:Type} (G C:ajZ) (a:aO) (c:bS) (e:cI->bw d):bw d:=
 kx ic (aU a.g) a.h c λb=>bif rk G C (aU a.g) c b then e b else bq
def im (ic:gJ) (D:bU bS) (G C:X->ajZ) (e:X) (b:aO) (d:cI):Prop:=
 ∃a,D[e]?=Y a/\((k3 D b a bp/\kx ic (aU b.g) b.h a Y=Y d/\rk (G e) (C e) (aU b.g) a d=bp)\/(k3 D b a br/\∃c,a.dst=Y c/\gu ic.n ic.pin c=bp/\d=yU c))
def tb (ic:gJ) {k:Type} (D:bU bS) (G C:X->ajZ):ajZ->aO->(aO->bw k)->bw k
 |[],a,b=>b a
 |i::e,a,b=>match D[i]? with
  |none=>bq
  |some f=>match f.guard with
   |none=>Ev ic (G i) (C i) a f λj=>tb ic D G C e (j.app a) b
   |some (
    l,tV)=>match(D[l]?).bind (·.dst),f.dst with
    |some d,Y c=>match gt a.g d with
     |.val .bool m=>bif gu ic.n ic.pin c then
      (match m==tV with
      |true=>Ev ic (G i) (C i) ⟨(d,.val .bool tV)::a.g,a.h⟩ f λj=>tb ic D G C e (j.app ⟨(d,.val .bool tV)::a.g,a.h⟩) b
      |false=>tb ic D G C e ⟨(c,.dd bW)::(d,.val .bool (!tV))::a.g,a.h⟩ b) else bq
     |.dd (.tuple _)=>bif gu ic.n ic.pin c then tb ic D G C e ⟨(c,.dd bW)::a.g,a.h⟩ b else bq
     |_=>bq
    |_,_=>bq
def n9 (ic:gJ) (D:bU bS) (G C:X->ajZ):ajZ->aO->aO->Prop
 |[],a,b=>kI a b
 |i::d,a,b=>∃c,im ic D G C i a c/\n9 ic D G C d (c.app a) b
theorem UM {tt:bn (bG×ai)} {id:X} {f:aZ} (b:oh tt l e a c (.ref id (f::j)) d Y=Y q):q.keep=[(id,f::j),(id,[])]/\q.S=[id]/\aq q.put id=aq e id:=by
 have o:∀{h:al} {g:aK},aq e id=Y g->aq e a=bq->Y (cI.mk (Y (a,h)) [id] [(id,f::j),(id,[])] [(a,⟨.eB,()⟩),(id,g)])=Y q->q.keep=[(id,f::j),(id,[])]/\q.S=[id]/\aq q.put id=aq e id:=(by intro h g i p k;cases k;have m:¬a=id:=λq=>(by grind);exact⟨bo,bo,by rw[de,aw m,de,ax bo,i]⟩);unfold oh at b;split at b
 ·rename_i r t s u n;obtain⟨ao,_,_⟩:=Kl n;cases ao;unfold zx at b;split at b
  case h_2=>cases b
  grind [ala]
 unfold o4 at b;split at b
 ·cases b
 rename_i v _;simp only at b;split at b
 case h_2=>cases b
 grind [ala]
theorem G8 {id:X} (e:sj V h=Y (id,j)):∃d f c g b a,h.op=.call {callee:=.builtin .append,args:=d,argTypes:=f}/\d.toList=[c,g]/\j=b::a/\V c=.ref id (b::a):=by unfold sj at e;grind
theorem NL {ic:gJ} {g:bP->al} {id:X} {d:bU bP} {o:bU bG} {p:bP} {c:aZ} {b:bn aZ} (k:h.op=.call {callee:=.builtin .append,args:=d,argTypes:=o}) (m:d.toList=[N,p]) (s:j=c::b) (r:g N=.ref id (c::b)) (a:ao ic g e h Y=Y q):q.keep=[(id,j),(id,[])]/\q.S=[id]/\aq q.put id=aq e id:=by
 unfold ao at a;cases i:h.dst with
 |none=>grind
 |some f=>
  rw[i] at a;simp only at a;cases l:gu ic.n ic.pin f with
  |false=>grind
  |true=>
  rw[l] at a;simp only[bH,k,m] at a;grind [UM]
theorem NP {ic:gJ} {id:X} (x:sj V h=Y (id,j)) (c:kx ic V e h Y=Y q):q.keep=[(id,j),(id,[])]/\aq q.put id=aq e id:=by
 obtain⟨M,K,k,N,i,f,p,r,C,o⟩:=G8 x;unfold kx at c;split at c
 ·grind [NL]
 generalize mD ic.p5 (vw h) V (rS h.op)=b at c;cases z:nE e b with
 |false=>grind
 |true=>
 rw[z] at c;simp only[bH] at c;rw[AE] at c;obtain⟨l,a,m⟩:=eL.1 c;cases B:l.keep.all (λs=>!eQ s.1 b) with
 |false=>grind
 |true=>
 rw[B] at m;cases m;have d:iv e b (.ref id (i::f))=.ref id (i::f)\/iv e b (.ref id (i::f))=.dead:=by
  rw[IH (by grind)];rcases mC e b (.ref id (i::f)) with⟨s,J,q,_⟩|⟨q,_⟩|⟨q,_⟩
  ·cases q
  ·grind
  grind
 rcases d with d|d
 ·obtain⟨E,_,F⟩:=NL (g:=λk=>iv e b (V k)) p r C (by show iv e b (V k)=_;rw[o];exact d) a;refine⟨E,?_⟩;show aq l.put id=_;rw[F,m7];have I:id∉b:=λH=>by
   grind [g8,ak1]
  grind
 exfalso;unfold ao at a;cases A:h.dst with
 |none=>grind
 |some v=>
  rw[A] at a;simp only at a;cases D:gu ic.n ic.pin v with
  |false=>grind
  |true=>
  rw[D] at a;simp only[bH,p,r] at a;split at a
  case h_2=>cases a
  rename_i L O t u w G;cases w;cases y:bI t u with
  |false=>grind
  |true=>
  rw[y] at a;simp only[bH,o,d,oh,vX,o4] at a;grind
section
variable {ic:gJ} {D:bU bS} {G C:X->ajZ}
theorem Et.ok {e:bw (X×al)} {a:ajV} (c:Et e a=bp):∀d b,e=Y (d,b)->a=Y d:=by
 intro d b g;subst g;cases a with
 |none=>cases c
 |some f=>rw[ff (show bI d f=bp from c)]
theorem NR {c:bS} {d:cI->bw b} {e:b} (j:Ev ic f w i c d=Y e):∃a,kx ic (aU i.g) i.h c Y=Y a/\rk f w (aU i.g) c a=bp/\d a=Y e:=by unfold Ev at j;grind [ala,Wl]
def mQ (b:ajZ) (a:al):Prop:=(∀id∈a.ids,id∈b)\/(∃id,a=.ref id []/\id+500000∈b)\/∃id c,qR a=Y (id,c)/\id<500000/\id+1000000*c∈b/\∀d∈a.ids,d=id\/d∈b
theorem tg.ok (a:tg f d=bp):∃id b,qR d=Y (id,b)/\id<500000/\id+1000000*b∈f/\∀c∈d.ids,c=id\/c∈f:=by
 unfold tg at a;split at a
 case h_2=>cases a
 rename_i id b e;simp only[cE] at a;refine⟨id,b,e,gL a.1,g8.1 a.2.1,λc g=>?_⟩;simp_all [ff,g8,jr,gU]
theorem pq.ok (a:pq f d=bp):∃id,d=.ref id []/\id+500000∈f:=by unfold pq at a;grind [g8]
theorem mQ.ok {c:ajZ} {b:al} (a:(pu b.ids c||pq c b)=bp):mQ c b:=by
 rcases jr _ _▸a with a|a
 ·exact .inl (pu.ok a)
 exact .inr (.inl (pq.ok a))
theorem mQ.aaE (a:(pu d.ids f||(pq f d||tg f d))=bp):mQ f d:=by
 simp only[jr] at a;rcases a with a|a|a
 ·exact .inl (pu.ok a)
 ·exact .inr (.inl (pq.ok a))
 exact .inr (.inr (tg.ok a))
theorem Ob (b:s6 j=Y a):1<=a:=by unfold s6 at b;grind
theorem VD {id:X} (b:qR d=Y (id,a)):1<=a:=by
 unfold qR at b;split at b
 ·split at b
  ·rename_i c;cases b;exact Ob c
  grind
 ·split at b
  ·rename_i c;cases b;exact Ob c
  grind
 ·grind
 grind
def LZ (e:Op) (c:ajZ) (b:al):Prop:=
 (∃f d g a,e=.extract f d/\b=.e6 g/\g[d]?=Y a/\tz a=bp/\mQ c a)\/
 ((∀f d,e≠.extract f d)/\CE b=bp/\mQ c b/\((∀id∈b.ids,id∈c\/∃a,1<=a/\id<500000/\id+1000000*a∈c)\/yc e=bp))
theorem oG.ok {h:Op} {f:ajZ} {e:al} (a:oG h f e=bp):LZ h f e:=by
 unfold oG at a;split at a
 ·rename_i d b;split at a
  case h_2=>cases a
  rename_i q;split at a
  case h_2=>cases a
  rename_i c o;rw[cE] at a;exact .inl ⟨d,b,q,c,bo,bo,o,a.1,.ok a.2⟩
 rename_i p;simp only[cE,jr] at a;refine .inr ⟨λd b i=>p d b i,a.1,?_⟩;rcases a.2 with a|⟨a,j⟩|a
 ·exact⟨.inl (pu.ok a),.inl λb g=>.inl (pu.ok a b g)⟩
 ·exact⟨.inr (.inl (pq.ok j)),.inr a⟩
 obtain⟨id,c,k,l,m,n⟩:=tg.ok a;refine⟨.inr (.inr ⟨id,c,k,l,m,n⟩),.inl λb g=>?_⟩;grind
theorem rk.ok {i b:ajZ} {j:bP->al} {g:bS} {c:cI} (a:rk i b j g c=bp):(∀d f,c.d=Y (d,f)->g.dst=Y d)/\(∀l∈g.op.operands,LZ g.op i (j l))/\(∀id∈c.S,id<500000/\(id∈b/\(id+500000∈b\/lp c.keep (.ref id [])=bp)\/id+1500000∈b))/\(∀h∈c.put,h.1<500000/\(h.1∈b\/h.1+1500000∈b))/\(∀d f,c.d=Y (d,f)->mQ i f)/\(∀e∈b,1000000<=e->∃id k,sj j g=Y (id,k)/\e %1000000=id+500000/\id<500000/\yG k (e/1000000)=bp):=by
 unfold rk at a;simp only[cE] at a;obtain⟨⟨⟨⟨m,t⟩,n⟩,o⟩,u,p⟩:=a;refine⟨Et.ok m,λl y=>?_,λid q=>?_,λh s=>?_,λd f w=>?_,λe r x=>?_⟩
 ·grind [oG.ok,ak1]
 ·have:=gU.1 n id q;simp_all [gL,g8,cE,jr]
 ·have:=gU.1 o h s;simp_all [gL,g8,cE,jr]
 ·grind [mQ.aaE]
 have:=gU.1 p e r;rw[jr] at this;rcases this with a|a
 ·have:e<1000000:=gL a;omega
 split at a
 case h_2=>cases a
 rename_i id k v;simp only[cE] at a;grind [akJ,Nat.le_of_ble_eq_true]
def qG (d:ajZ) (a c:al):Prop:=(CE a=bp->mQ d a->c=a)/\∀f,a=.e6 f->∃g,c=.e6 g/\∀(e:X) (b:al),f[e]?=Y b->tz b=bp->mQ d b->g[e]?=Y b
def qG.refl (a:t=d):qG f d t:=⟨λ_ _=>a,λc b=>⟨c,by rw[a,b],λ_ _ a _ _=>a⟩⟩
theorem qG.oG {a:ajZ} {h:Op} {c d:al} (e:qG a c d) (g:oG h a c=bp):jt.oG h a d=bp:=by
 rcases oG.ok g with⟨r,p,k,l,i,b,f,j,n⟩|⟨i,b,f,j⟩
 ·obtain⟨q,m,o⟩:=e.2 k b;grind [jt.oG]
 rw[e.1 b f];exact g
theorem Wm {ic:gJ} {b:bP->al} {g:bn (X×aK)} {c f:bn al} (o:h.op=.extract n a) (m:kx ic V e h Y=Y q) (i:V n=.e6 c) (j:b n=.e6 f) (k:c[a]?=Y d) (l:f[a]?=Y d):kx ic b g h Y=Y q:=by simp_all [kS,gY,EE,ao,mD,vw,rS,kx]
theorem Wo {ic:gJ} {a:bP->al} {d:bn (X×aK)} (b:yc h.op=bp) (f:kx ic V e h Y=Y q) (g:∀c∈h.op.operands,V c=a c):kx ic a d h Y=Y q:=by
 unfold yc at b;split at b
 ·simp_all [kS,gY,ao,mD,vw,rS,kx,bV]
 grind
theorem Y1 (b:.tmp a∈h.op.operands):a∈h.looksAt D:=
 n5 _ (List.mem_filterMap.2 ⟨.tmp a,by grind,bo⟩)
theorem Y2 {b:bA} (c:h.guard=Y (m,b)) (d:(D[m]?).bind (·.dst)=Y a):a∈h.looksAt D:=
 lD _ (by grind)
theorem Tk {l:aO} {c:bA} (n:∀k∈h.looksAt D,qG f (gt i.g k) (gt l.g k)) (a:k3 D i h c):k3 D l h c:=by
 unfold k3 at*;cases d:h.guard with
 |none=>grind
 |some p=>
  obtain⟨o,r⟩:=p;rw[d] at a;simp only at a|-;cases e:(D[o]?).bind (·.dst) with
  |none=>grind
  |some m=>
   rw[e] at a;simp only at a|-;have j:=n m (Y2 d e);split at a
   ·rename_i s b;rw[j.1 (by rw[b];rfl) (by rw[b];exact .inl (by simp[bT])),b];exact a
   ·rename_i q b;rw[j.1 (by rw[b];rfl) (by rw[b];exact .inl (by simp[bT])),b];exact a
   grind
theorem im.congr {f:aO} (e:im ic D G C a i q) (m:∀c,D[a]?=Y c->∀o∈c.looksAt D,qG (G a) (gt i.g o) (gt f.g o)) (w:∀c,D[a]?=Y c->∀id,id∈G a\/id∈C a\/c.dst=Y id->aq i.h id=aq f.h id) (cv:∀id j,1<=j->id<500000->id+1000000*j∈G a->aq i.h id=aq f.h id):im ic D G C a f q:=by
 obtain⟨c,x,e⟩:=e;have m:=m c x;have w:=w c x;refine⟨c,x,e.imp (λ⟨s,t,l⟩=>⟨Tk m s,?_⟩) (λ⟨s,t⟩=>⟨Tk m s,t⟩)⟩;obtain⟨bs,f2,bx,f4,f5,P⟩:=rk.ok l;have n:∀b∈c.op.operands,qG (G a) (aU i.g b) (aU f.g b):=by
  intro b d;cases b with
  |tmp o=>exact m o (Y1 d)
  |const ap=>exact .refl (by cases ap<;>rfl)
  |func bl=>exact .refl bo
  |global Q=>exact .refl bo
 constructor
 ·by_cases S:∃b F,c.op=.extract b F
  ·obtain⟨b,F,U⟩:=S;have d:b∈c.op.operands:=(by grind [bV]);rcases f2 b d with⟨J,H,y,j,k,r,z,ce,ci⟩|⟨k,_⟩
   ·rw[U] at k;cases k;obtain⟨dl,ay,ds⟩:=(n b d).2 y r;grind [Wm]
   grind
  have A:∀b∈c.op.operands,CE (aU i.g b)=bp/\mQ (G a) (aU i.g b)/\((∀id∈(aU i.g b).ids,id∈G a\/∃j,1<=j/\id<500000/\id+1000000*j∈G a)\/yc c.op=bp):=λb d=>by
   rcases f2 b d with⟨J,H,y,j,k,_⟩|⟨_,Q⟩
   ·grind
   omega
  have v:∀b∈c.op.operands,aU i.g b=aU f.g b:=λb d=>((n b d).1 (A b d).1 (A b d).2.1).symm;by_cases c1:yc c.op=bp
  ·grind [Wo]
  have V:∀b∈c.op.operands,∀id∈(aU i.g b).ids,aq i.h id=aq f.h id:=λb d id cs=>(by grind);refine Wn t v V (λO R=>w O (.inr (.inr R))) (λI B=>?_);rcases(f4 I B).2 with e|e
  ·grind
  obtain⟨id,p,K,a1,a3,_⟩:=P _ e aa;have:=(f4 I B).1;obtain⟨av,an,b,a0,am,ay,L,M,_,N⟩:=G8 K;grind [cB,tr,bT]
 unfold rk at*;have:(c.op.operands.toList.all λb=>oG c.op (G a) (aU f.g b))=bp:=(by simp only[cE] at l;rw[gU];intro b d;exact(n b (by grind)).oG (gU.1 l.1.1.1.2 b d));have co:∀id p,sj (aU i.g) c=Y (id,p)->sj (aU f.g) c=Y (id,p):=λid p v=>by
  obtain⟨av,an,b,a0,am,ay,L,M,a4,N⟩:=G8 v;have E:b∈c.op.operands:=(by grind [tr]);have dg:aU f.g b=aU i.g b:=by
   rcases f2 b E with⟨J,H,y,j,k,_⟩|⟨_,r,z,_⟩
   ·grind
   exact(n b E).1 r z
  grind [sj]
 have c2:Kp (C a) (aU f.g) c=bp:=by
  simp only[cE] at l;have u:=l.2.2;unfold Kp at u|-;rw[gU] at u|-;intro ad T;have:=u ad T;rw[jr] at this|-;refine this.imp (λe=>e) (λe=>?_);split at e
  case h_2=>cases e
  grind
 grind
theorem im.Ew (g:im ic D G C a i q) {r:bS} (F:D[a]?=Y r):(∀f c,q.d=Y (f,c)->r.dst=Y f)/\(∀id∈q.S,id<500000/\(id∈C a/\(id+500000∈C a\/lp q.keep (.ref id [])=bp)\/id+1500000∈C a))/\(∀k∈q.put,k.1<500000/\(k.1∈C a\/k.1+1500000∈C a))/\(∀f c,q.d=Y (f,c)->mQ (G a) c)/\(∀id,id<500000->id+1500000∈C a->aq (q.app i).h id=aq i.h id)/\(∀id b e,id∈q.S->id<500000->id+1000000*b+500000∈C a->1<=b->qR e=Y (id,b)->(∀p∈e.ids,p=id\/p∉q.S)->kz q.S q.keep e=bp):=by
 obtain⟨L,n,g⟩:=g;rw[F] at n;cases n;rcases g with⟨_,x,g⟩|⟨_,f,A,_,rfl⟩
 ·obtain⟨u,f2,v,f4,f5,w⟩:=rk.ok g;refine⟨u,v,f4,f5,λid B m=>?_,λid b e l B m K z E=>?_⟩
  ·grind [cI.sk,NP]
  obtain⟨o,M,s,H,I,J⟩:=w _ m aa;obtain rfl:o=id:=aa;obtain⟨y,_⟩:=NP s x;rw[y];refine acU ?_ z E;have:(o+1000000*b+500000)/1000000=b:=aa;grind
 refine⟨λt c j=>?_,by simp[yU],by simp[yU],λt c j=>?_,λid _ _=>rfl,λid b e l=>by cases l⟩
 ·cases j;exact A
 cases j;exact .inl (by simp[bT])
structure zl (f S:ajZ) (keep:bn (X×bn aZ)):Prop where
 a:∀id∈S,id∉f
 b:∀id∈S,id+500000∈f->lp keep (.ref id [])=bp
 c:∀id∈S,∀c v,1<=c->id<500000->id+1000000*c∈f->qR v=Y (id,c)->(∀j∈v.ids,j=id\/j∉S)->kz S keep v=bp
theorem E6 (b:ajZ) (c:bn (X×bn aZ)) (a:al):e5 b c a=.dead\/e5 b c a=a:=by grind [kz,e5]
theorem I8 (b:tz (e5 f g d)=bp):e5 f g d=d:=by
 rcases E6 f g d with a|a
 ·rw[a] at b;cases b
 omega
theorem I7 (a:∀id∈d.ids,id∉f):e5 f g d=d:=by grind [g8,anp,Gt,id,akc]
theorem X3 (a:∀id∈d.ids,id∉f):fC f g d=d:=by grind [g8,anp,Ls,id,akc]
theorem O9 (e:mQ w d) (i:zl w f g):e5 f g d=d:=by
 rcases e with e|⟨id,rfl,e⟩|⟨id,o,k,p,q,l⟩
 ·exact I7 λid s h=>i.a id h (e id s)
 ·by_cases h:id∈f
  ·unfold e5;rw[show kz f g (.ref id [])=lp g (.ref id []) from rfl,i.b id h e];simp
  grind [I7,cB,bT]
 by_cases h:id∈f
 ·unfold e5;rw[i.c id h o d (VD k) p q k (λn t=>(l n t).imp (λe=>e) (λe h=>i.a n h e))];simp
 exact I7 λm r u=>by
  rcases l m r with j|j
  ·grind
  exact i.a m u j
theorem AX (b:mQ w d) (e:zl w f g):fC f g d=d:=by
 cases d with
 |e6 k=>
  rcases b with b|⟨id,c,_⟩|⟨id,j,c,_⟩
  ·exact X3 λid h i=>e.a id i (b id h)
  ·cases c
  cases c
 |_=>exact O9 b e
theorem O8 (a:ajZ) (d:bn (X×bn aZ)) (b:ajZ) (e:bn (X×bn aZ)) (c:al):e5 a d (e5 b e c)=e5 b e (e5 a d c):=by grind [E6]
theorem O7 (b:∀a,d≠.e6 a):fC f g d=e5 f g d:=by
 cases d with
 |e6 a=>grind
 |_=>rfl
theorem E5 (b:ajZ) (d:bn (X×bn aZ)) (c:ajZ) (e:bn (X×bn aZ)) (a:al):fC b d (fC c e a)=fC c e (fC b d a):=by
 by_cases g:∃f,a=.e6 f
 ·obtain⟨f,rfl⟩:=g;simp_all [b4,ju,O8,ui,fC]
 grind [E6,O7,O8]
theorem X5 (l d:ajZ) (e:bn (X×bn aZ)) (b:al):qG l (fC d e b) b:=by
 by_cases j:∃a,b=.e6 a
 ·obtain⟨a,rfl⟩:=j;refine⟨λc _=>?_,λr m=>⟨a,bo,λq o p i _=>?_⟩⟩
  ·simp only[fC] at c|-;have c:∀g∈a.map (e5 d e),tz g=bp:=gU.1 c;congr 1;rw[ju (λg n=>I8 (c _ (fe.2 ⟨g,n,bo⟩))),anq]
  simp only[fC,al.e6.injEq] at m;grind [I8,aou]
 have i:∀a,b≠.e6 a:=λa f=>j ⟨a,f⟩;rw[O7 i];have h:∀a,e5 d e b≠.e6 a:=λa f=>(by grind [E6]);refine⟨λc _=>?_,λa f=>absurd f (h a)⟩;have:tz (e5 d e b)=bp:=by
  generalize e5 d e b=k at c h;cases k with
  |e6 a=>grind
  |_=>exact c
 grind [I8]
theorem X6 (a:al) (d:zl w f g):qG w a (fC f g a):=by refine⟨λ_ c=>AX c d,λk b=>?_⟩;subst b;refine⟨_,bo,λj e h _ i=>?_⟩;grind [O9]
def Mp (e:∀b c,q.d=Y (b,c)->b≠a):gt (q.app i).g a=fC q.S q.keep (gt i.g a):=by
 rw[cI.uE];cases f:q.d with
 |none=>rfl
 |some h=>obtain⟨b,c⟩:=h;simp only;rw[aw (e b c f)]
def YA {c:bn (X×b)} {id:X} (d:∀a∈c,a.1≠id):aq c id=bq:=by
 induction c with
 |nil=>rfl
 |cons a c f=>
  obtain⟨g,h⟩:=a;rw[de,aw (d (g,h) ac),f (λa e=>d a (by simp[e]))]
def Mq {id:X} (a:id∉q.S) (b:∀c∈q.put,c.1≠id):aq (q.app i).h id=aq i.h id:=by rw[cI.sk,aw a,YA b];rfl
def sV (b c:ajZ):bA:=b.all λa=>!(eQ a c)
theorem sV.ok (b:sV f w=bp):∀a∈f,a∉w:=λa c d=>by have:=gU.1 b a c;rw[g8.2 d] at this;cases this
def dl (b:bS):ajZ:=match b.dst with
 |some a=>[a]
 |none=>[]
theorem yp (b:h.dst=Y a):a∈dl h:=by unfold dl;rw[b];simp
def sW (b c:ajZ):bA:=b.all λa=>b3 1000000 a||!(eQ a c)
theorem sW.ok (a:sW f w=bp):∀b∈f,b<1000000->b∉w:=λb c e d=>by
 have:=gU.1 a b c;rw[g8.2 d,jr] at this;rcases this with a|a
 ·have:=gL a;omega
 cases a
def rr (e d f b:ajZ):bA:=(b.all λa=>cf a 1000000||(!(eQ (a %1000000-500000) e)&&(!(eQ (a %1000000-500000) d)&&!(eQ (a %1000000-500000) f))))&&d.all λc=>cf c 1000000||(!(eQ (c %1000000) b)&&(!(eQ (c %1000000+1500000) b)||eQ (c+500000) b))
theorem rr.ok {d i:ajZ} (a:rr d w i f=bp):(∀id,id<500000->id+1500000∈f->id∉d/\id∉w/\id∉i)/\∀id b,1<=b->id<500000->id+1000000*b∈w->id∉f/\(id+1500000∈f->id+1000000*b+500000∈f):=by
 unfold rr at a;rw[cE] at a;have e:∀{g:X} {h:ajZ},(!(eQ g h))=bp->g∉h:=λ{g h} a c=>(by rw[g8.2 c] at a;cases a);constructor
 ·intro id k c;have:=gU.1 a.1 _ c;rw[jr] at this;rcases this with a|a
  ·have:id+1500000<1000000:=gL a;omega
  rw[(aa:(id+1500000) %1000000-500000=id)] at a;simp only[cE] at a;exact⟨e a.1,e a.2.1,e a.2.2⟩
 intro id b l k c;have:=gU.1 a.2 _ c;rw[jr] at this;rcases this with a|a
 ·have:id+1000000*b<1000000:=gL a;omega
 rw[(aa:(id+1000000*b) %1000000=id)] at a;simp only[cE,jr] at a;refine⟨e a.1,λj=>?_⟩;rcases a.2 with a|a
 ·exact absurd j (e a)
 exact g8.1 a
def uO (D:bU bS) (G C:X->ajZ) (a b:X):bA:=
 match D[a]?,D[b]? with
 |some d,Y c=>d.apart D c&&sW (C b) (dl d++(G a++C a))&&sW (C a) (dl c++G b)&&(rr (dl d) (G a) (C a) (C b)&&rr (dl c) (G b) (C b) (C a))
 |_,_=>br
def im.yj (b:im ic D G C a i q) {id:X} (m:500000<=id):aq (q.app i).h id=aq i.h id:=by obtain⟨k,c,j⟩:=b;have b:im ic D G C a i q:=⟨k,c,j⟩;obtain⟨_,d,e,_⟩:=b.Ew c;exact Mq (λf=>by have:=(d id f).1;omega) (λl g q=>by have:=(e l g).1;omega)
def im.tk (d:im ic D G C a i q) {id:X} (e:id∉C a):aq (q.app i).h id=aq i.h id:=by
 obtain⟨o,f,n⟩:=d;have d:im ic D G C a i q:=⟨o,f,n⟩;obtain⟨_,g,j,_,k,_⟩:=d.Ew f;by_cases c:id<500000/\id+1500000∈C a
 ·exact k id c.1 c.2
 refine Mq (λl=>?_) (λp m q=>?_)
 ·obtain⟨ay,b⟩:=g id l;rcases b with b|b
  ·exact e b.1
  exact c ⟨ay,b⟩
 subst q;obtain⟨ay,b⟩:=j p m;rcases b with b|b
 ·exact e b
 exact c ⟨ay,b⟩
theorem im.swap {e:cI} (l:uO D G C m a=bp) (o:im ic D G C m i e) (B:im ic D G C a (e.app i) q):im ic D G C a i q/\im ic D G C m (q.app i) e/\kI (q.app (e.app i)) (e.app (q.app i)):=by
 unfold uO at l;split at l
 case h_2=>cases l
 rename_i a1 a0 ap an;simp only[cE] at l;obtain⟨⟨⟨c1,J⟩,K⟩,dl,ds⟩:=l;have J:=sW.ok J;have K:=sW.ok K;obtain⟨cs,U⟩:=rr.ok dl;obtain⟨cv,V⟩:=rr.ok ds;obtain⟨bx,ce,ci⟩:=Oper.apart_spec c1;obtain⟨bl,T,ek,el,em,bs⟩:=o.Ew ap;obtain⟨i1,N,d3,d4,d5,av⟩:=B.Ew an;have d7:∀p∈a0.looksAt D,gt (e.app i).g p=fC e.S e.keep (gt i.g p):=λp A=>Mp λj w z y=>bx j (bl j w z) (y▸A);have d6:∀p∈a1.looksAt D,gt (q.app i).g p=fC q.S q.keep (gt i.g p):=λp A=>Mp λj w z y=>ci j (i1 j w z) (y▸A);have L:∀j H t I,q.d=Y (j,H)->e.d=Y (t,I)->j≠t:=λj H t I z c2 y=>ce t (bl t I c2) (y▸i1 j H z);have E:∀id,id<1000000->id∈G m\/id∈C m\/a1.dst=Y id->id∉C a:=λid h c s=>J id s h (by
  rcases c with c|c|c
  ·simp[c]
  ·simp[c]
  simp[yp c])
 have a4:∀id,id<1000000->id∈G a\/a0.dst=Y id->id∉C m:=λid h c s=>K id s h (by
  rcases c with c|c
  ·simp[c]
  simp[yp c])
 have d2:∀id,id<1000000->id∈C a->id∉C m:=λid h c s=>E id h (.inr (.inl s)) c;have d9:zl (G a) e.S e.keep:=by
  refine⟨λid k f=>?_,λid k f=>?_,λid k r R l n f M x=>?_⟩
  ·obtain⟨ay,b⟩:=T id k;rcases b with b|b
   ·exact a4 id aa (.inl f) b.1
   exact(cv id ay b).2.1 f
  ·obtain⟨ay,b⟩:=T id k;rcases b with b|b
   ·exact b.2.resolve_left (a4 _ aa (.inl f))
   exact bs id 1 (.ref id []) k ay (by rw[(aa:id+1000000*1+500000=id+1500000)];exact b) (bd _) rfl (λd0 x=>.inl (by simpa[bT] using x))
  obtain⟨_,b⟩:=T id k;obtain⟨a3,Q⟩:=V id r l n f;rcases b with b|b
  ·exact absurd b.1 a3
  exact bs id r R k n (Q b) l M x
 have d8:zl (G m) q.S q.keep:=by
  refine⟨λid k f=>?_,λid k f=>?_,λid k r R l n f M x=>?_⟩
  ·obtain⟨ay,b⟩:=N id k;rcases b with b|b
   ·exact E id aa (.inl f) b.1
   exact(cs id ay b).2.1 f
  ·obtain⟨ay,b⟩:=N id k;rcases b with b|b
   ·exact b.2.resolve_left (E _ aa (.inl f))
   exact av id 1 (.ref id []) k ay (by rw[(aa:id+1000000*1+500000=id+1500000)];exact b) (bd _) rfl (λd0 x=>.inl (by grind [bT]))
  obtain⟨_,b⟩:=N id k;obtain⟨a3,Q⟩:=U id r l n f;rcases b with b|b
  ·grind
  exact av id r R k n (Q b) l M x
 have v:im ic D G C a i q:=by
  refine B.congr (λO u p A=>?_) (λO u id n=>?_) (λid r l n f=>?_)
  ·grind [X5]
  ·rw[an] at u;cases u;rcases cR id 500000 with h|h
   ·refine o.tk ?_;rcases n with c|c|c
    ·grind
    ·grind
    grind
   exact o.yj h
  exact o.tk (V id r l n f).1
 have F:im ic D G C m (q.app i) e:=by
  refine o.congr (λO u p A=>?_) (λO u id n=>?_) (λid r l n f=>?_)
  ·grind [X6]
  ·rw[ap] at u;cases u;rcases cR id 500000 with h|h
   ·exact(v.tk (E id aa n)).symm
   exact(v.yj h).symm
  exact(v.tk (U id r l n f).1).symm
 refine⟨v,F,?_,λid=>?_⟩
 ·intro p;rw[cI.uE q,cI.uE e (q.app i),cI.uE e i,cI.uE q i];cases dg:e.d with
  |none=>
   cases ad:q.d with
   |none=>grind [E5]
   |some P=>
    obtain⟨j,w⟩:=P;simp only;split
    ·grind [AX]
    grind [E5]
  |some d1=>
   obtain⟨t,co⟩:=d1;cases ad:q.d with
   |none=>
    simp only;split
    ·grind [AX]
    grind [E5]
   |some P=>
    obtain⟨j,w⟩:=P;have L:j≠t:=L j w t co ad dg;simp only;by_cases o:j=p
    ·subst o;rw[ax bo,aw (Ne.symm L),ax bo];grind [AX]
    rw[aw o,aw o];split
    ·grind [AX]
    grind [E5]
 rcases cR id 500000 with h|h
 ·by_cases s:id∈C a
  ·have am:=d2 id aa s;rw[F.tk am,cI.sk q,cI.sk q,o.tk am]
  rw[B.tk s,cI.sk e,cI.sk e,v.tk s]
 rw[B.yj h,o.yj h,F.yj h,v.yj h]
def im.seq {c:aO} (b:kI i c) (d:im ic D G C a i q):im ic D G C a c q:=
 d.congr (λ_ _ e _=>.refl (b.g e).symm) (λ_ _ id _=>b.h id) (λid _ _ _ _=>b.h id)
def n9.seq:∀{c:ajZ} {d e f:aO},kI d e->n9 ic D G C c d f->n9 ic D G C c e f
 |[],_,_,_,a,h=>a.symm.trans h
 |_::_,_,_,_,a,⟨b,g,i⟩=>⟨b,g.seq a,n9.seq (a.app b) i⟩
theorem n9.front {g:X} {h:ajZ}:∀{b:ajZ} {a d:aO},(∀x∈b,uO D G C x g=bp)->n9 ic D G C (b++g::h) a d->∃c,im ic D G C g a c/\n9 ic D G C (b++h) (c.app a) d
 |[],a,d,_,⟨c,e,f⟩=>⟨c,e,f⟩
 |x::b,a,d,i,⟨k,e,f⟩=>by obtain⟨j,o,p⟩:=n9.front (λq r=>i q (by grind)) f;obtain⟨l,m,n⟩:=im.swap (i x ac) e o;exact⟨j,l,k,m,p.seq n⟩
end
end
section
section
variable {ic:gJ} {F:bU bS} {iw hU:X->ajZ}
theorem AS {D:Type} {y:aO->bw D} {C:D}:∀{w:ajZ} {b:aO},tb ic F iw hU w b y=Y C->∃c,n9 ic F iw hU w b c/\y c=Y C
 |[],b,a=>⟨b,kI.refl b,a⟩
 |i::w,b,a=>by
  simp only[tb] at a;split at a
  ·cases a
  rename_i o m;split at a
  ·rename_i A;obtain⟨k,s,t,u⟩:=NR a;obtain⟨c,f,j⟩:=AS u;exact⟨c,⟨k,⟨o,m,.inl ⟨by grind [k3],s,t⟩⟩,f⟩,j⟩
  rename_i I x A;split at a
  case h_2=>cases a
  rename_i r e G z;split at a
  case h_3=>cases a
  case h_2=>
   rename_i K B;cases l:gu ic.n ic.pin e with
   |false=>grind
   |true=>
   rw[l] at a;obtain⟨c,f,j⟩:=AS a;refine⟨c,⟨yU e,⟨o,m,.inr ⟨?_,e,z,l,bo⟩⟩,f⟩,j⟩;grind [k3]
  rename_i d B;cases l:gu ic.n ic.pin e with
  |false=>grind
  |true=>
  rw[l] at a;simp only[bH] at a;have p:∀q,d=q->kI ⟨(r,.val .bool q)::b.g,b.h⟩ b:=λq v=>⟨λJ=>by
   grind [i4],λ_=>rfl⟩
  split at a
  ·rename_i v;obtain rfl:d=x:=(by grind);obtain⟨k,s,t,u⟩:=NR a;obtain⟨c,f,j⟩:=AS u;have E:im ic F iw hU i ⟨(r,.val .bool d)::b.g,b.h⟩ k:=by
    refine⟨o,m,.inl ⟨?_,s,t⟩⟩;unfold k3;rw[A];simp only[G,(p d bo).g r,B];simp
   exact⟨c,⟨k,E.seq (p d bo),f.seq ((p d bo).app k)⟩,j⟩
  rename_i v;have H:d=!x:=by cases d<;>cases x<;>first|rfl|cases v
  obtain⟨c,f,j⟩:=AS a;refine⟨c,⟨yU e,⟨o,m,.inr ⟨?_,e,z,l,bo⟩⟩,f.seq ((p _ H).app (yU e))⟩,j⟩;grind [k3]
structure lS where
 i:X
 d:ajZ
 aq:ajZ
 ps:ajZ
 iw:ajZ
 hU:ajZ
def sZ:ajZ->ajZ->bA
 |[],[]=>bp
 |a::c,b::d=>bI a b&&sZ c d
 |_,_=>br
theorem p2:∀{c d:ajZ},sZ c d=bp->c=d
 |[],[],_=>rfl
 |a::c,e::d,b=>by simp only[sZ,cE] at b;rw[ff b.1,p2 b.2]
 |[],_::_,b=>by cases b
 |_::_,[],b=>by cases b
def qh (F:bU bS) (iw hU:X->ajZ) (a:lS):bA:=match F[a.i]? with
 |some b=>sZ (dl b) a.d&&sZ (b.looksAt F) a.aq&&sZ (qd F a.i) a.ps&&sZ (iw a.i) a.iw&&sZ (hU a.i) a.hU
 |none=>br
def HB (a b:lS):bA:=sV a.d b.aq&&sV a.d b.d&&sV b.d a.aq&&sW b.hU (a.d++(a.iw++a.hU))&&sW a.hU (b.d++b.iw)&&(rr a.d a.iw a.hU b.hU&&rr b.d b.iw b.hU a.hU)
theorem VO {j h:lS} (b:qh F iw hU j=bp) (a:qh F iw hU h=bp) (c:HB j h=bp):uO F iw hU j.i h.i=bp:=by
 unfold qh at b a;split at b
 case h_2=>cases b
 rename_i v q;split at a
 case h_2=>cases a
 rename_i u p;simp only[cE] at b a;obtain⟨⟨⟨⟨w,x⟩,D⟩,y⟩,z⟩:=b;obtain⟨⟨⟨⟨i1,r⟩,A⟩,s⟩,t⟩:=a;unfold HB at c;rw[<-p2 w,<-p2 x,<-p2 y,<-p2 z,<-p2 i1,<-p2 r,<-p2 s,<-p2 t] at c;simp only[cE] at c;obtain⟨⟨⟨⟨⟨e,f⟩,k⟩,l⟩,m⟩,n,o⟩:=c;unfold uO;simp only[q,p,l,m,n,o,ann];have e:=sV.ok e;have f:=sV.ok f;have k:=sV.ok k;unfold Oper.apart;rw[cE];constructor
 ·cases g:v.dst with
  |none=>rfl
  |some d=>
   have B:=e d (yp g);have C:=f d (yp g);simp only[cE,tX];refine⟨?_,?_⟩
   ·grind
   rw[bne_iff_ne];grind [yp]
 cases g:u.dst with
 |none=>rfl
 |some d=>
  simp_all [Bool.not_eq_true,List.contains_iff_mem,tX,yp]
def lG (a b:X):bA:=bI (Nat.land (Nat.shiftRight a b) 1) 1
def G2 (a b:X):X:=anA a (Nat.shiftLeft 1 b)
theorem zD:lG a m=bp↔a.testBit m=bp:=by simp_all [alz,aj8,ff,Nat.shiftRight_eq_div_pow,Nat.and_one_is_mod,Nat.testBit_eq_decide_div_mod_eq,bI,lG]
theorem MI {b:X} (c:lG (anA m b) a=bp):lG m a=bp\/lG b a=bp:=by simp_all [aov,zD]
theorem MH {c:X} (b:lG (G2 m c) a=bp):lG m a=bp\/a=c:=by
 rcases MI b with b|b
 ·grind
 simp_all [zD,Nat.shiftLeft_eq,jL,anB,alz]
theorem CO (b:lG 0 a=bp):False:=by grind [zD]
def zw (a:aj1):ajZ->X
 |[]=>0
 |p::b=>anA (G2 ((jt.aq a p).getD 0) p) (zw a b)
theorem Mi {e:aj1}:∀{d:ajZ} {b:X},lG (zw e d) b=bp->∃p∈d,b=p\/∃c,jt.aq e p=Y c/\lG c b=bp
 |[],_,a=>(CO a).elim
 |p::d,b,a=>by
  rcases MI a with a|a
  ·refine⟨p,ac,?_⟩;rcases MH a with a|a
   ·cases g:jt.aq e p with
    |none=>grind [CO]
    |some c=>grind
   omega
  obtain⟨i,h,f⟩:=Mi a;grind
def CT (c:X):X->bn lS->aj1->bn lS->bA
 |_,_,_,[]=>bp
 |fV,d,b,a::f=>
  a.ps.all (λg=>lG fV g)&&(d.all λe=>lG (zw b a.ps) e.i||HB e a)&&!(lG fV a.i)&&cf a.i c&&CT c (G2 fV a.i) (a::d) ((a.i,zw b a.ps)::b) f
def lm (a:bn lS):ajZ:=a.map (·.i)
def uK (F:bU bS) (iw hU:X->ajZ) (a:bn lS):bA:=a.all (qh F iw hU)&&CT F.size 0 [] [] a&&((bL F.size).all λb=>eQ b (lm a))&&b3 a.length F.size
def Cg (F:bU bS) (a:X->Prop):Prop:=∀b,a b->∀c∈qd F b,a c
theorem qh.ps {b:lS} (a:qh F iw hU b=bp):qd F b.i=b.ps:=by
 unfold qh at a;split at a
 case h_2=>cases a
 simp only[cE] at a;grind [p2]
theorem Hu:∀{q j:bn lS} {o:X} {s:aj1},CT F.size o j s q=bp->(∀r∈q,qh F iw hU r=bp)->(∀r∈j,qh F iw hU r=bp)->(∀h,lG o h=bp->h∈lm j)->(∀h∈lm j,lG o h=bp)->(∀e v,jt.aq s e=Y v->∀b,Cg F b->b e->∀a,lG v a=bp->b a)->∀f g p,lm q=f++g::p->(∀e∈qd F g,e∈lm j\/e∈f)/\(∀b,Cg F b->(∀e∈qd F g,b e)->∀a,(a∈lm j\/a∈f)->¬b a->uO F iw hU a g=bp)/\g∉lm j/\g∉f/\g<F.size
 |[],_,_,_,t,_,_,_,_,M,f,g,p,m=>by cases f<;>cases m
 |r::q,j,o,s,t,z,S,d,J,M,f,g,p,m=>by
  simp only[CT,cE,gU,tX] at t;obtain⟨⟨⟨⟨E,G⟩,x⟩,H⟩,I⟩:=t;have L:=z r ac;have K:=qh.ps L;have x:r.i∉lm j:=λk=>(by grind);have N:∀b,Cg F b->(∀e∈qd F r.i,b e)->∀a,lG (zw s r.ps) a=bp->b a:=(by grind [Mi]);cases f with
  |nil=>
   cases m;refine⟨λe l=>.inl (d _ (E e (K▸l))),λb n l a c y=>?_,x,ac,gL H⟩;rcases c with c|c
   ·obtain⟨P,O,rfl⟩:=fe.1 c;have:=G P O;rcases jr _ _▸this with d|d
    ·grind
    grind [VO]
   grind
  |cons Q f=>
   simp only[lm,hX,n1,hM] at m;obtain⟨rfl,m⟩:=m;obtain⟨B,C,w,R,D⟩:=Hu I (λa c=>z a (by grind)) (λa c=>by
    grind) (λh k=>by
    rcases MH k with k|rfl
    ·exact g3 _ (d h k)
    ·exact mr ..) (λh k=>by
    rw[zD];show(o|||(1<<<r.i)).testBit h=bp;rw[aov,jr];rcases fG.1 k with rfl|k
    ·grind
    ·left;exact zD.1 (J h k)) (λe v u b n l a c=>by
    rw[de] at u;split at u
    ·rename_i A;cases u;subst A;exact N b n (n _ l) a c
    grind) f g p m
   refine⟨λe l=>?_,λb n l a c y=>C b n l a ?_ y,λd=>w (g3 _ d),λd=>?_,D⟩
   ·rcases B e l with d|d
    ·rcases fG.1 d with rfl|d
     ·grind
     exact .inl d
    grind
   ·rcases c with c|c
    ·exact .inl (g3 _ c)
    rcases fG.1 c with rfl|c
    ·exact .inl (mr ..)
    grind
   rcases fG.1 d with rfl|d
   ·exact w (mr ..)
   grind
variable {E:fk} {C:eW}
theorem im.wp (h:ic.ae E C) (d:im ic F iw hU a i q) {b:Act} (g:gC C i b.tmps v) {next:Act->bD->Prop} (p:∀c j,c.defers=b.defers->gC C (q.app i) c.tmps j->next c j):wpOp E.P F o a next b v:=by
 obtain⟨w,r,d⟩:=d;obtain⟨k,t,l,e⟩:=id g;unfold wpOp;simp only[r];rcases d with⟨f,m,_⟩|⟨f,u,n,s,rfl⟩
 ·rw[f.ok e,ax bo];refine .inl (NQ h m b v g _ _ ?_);grind
 rw[f.ok e,aw ac,n];exact p _ v bo ⟨k,t,l,e.put (gu.ok h s) (.dd bW)⟩
def left (a:ajZ) (c:bU bA):ajZ:=a.filter λb=>!c.getD b bp
theorem Pk {b:bU bA} {c:ajZ} (g:left f b=w++a::c) (h:a∉w) (i:a∉c) (j:a<b.size):left f (b.setIfInBounds a bp)=w++c:=by
 have:left f (b.setIfInBounds a bp)=(left f b).filter λd=>!(d==a):=by
  unfold left;rw[amz];refine qz λd _=>?_;by_cases e:a=d
  ·simp_all
  rw[anC bp e];grind
 grind [alp,List.filter_cons_of_neg]
theorem Ks (c:F[a]?=Y h):m∈qd F a↔∃b∈h.after,anz .any b=bp/\b.on=m:=by grind [qd]
theorem UL (d2:ic.ae E C) {R:bn lS} (c2:f=lm R) (r:uK F iw hU R=bp) {t:aO} {ds:bn Deferred} (am:∀d g,d.defers=ds->gC C t d.tmps g->o .normal d g):∀(q:X) (a:bU bA) (d:Act) (g:bD) (w:aO),a.size=F.size->(left f a).length<=q->Cg F (λe=>a.getD e bp=bp/\e<F.size)->n9 ic F iw hU (left f a) w t->gC C w d.tmps g->d.defers=ds->wpAny E.P .any F o q a d g:=by
 unfold uK at r;simp only[cE,gU,jJ] at r;obtain⟨⟨⟨ek,r⟩,an⟩,_⟩:=r;have I:=Hu r ek ac (λe d3=>(CO d3).elim) (by simp[lm]) (λH f4 c=>by cases c);rw[<-c2] at I an;have Q:∀i,i<F.size->i∈f:=λi M=>g8.1 (an i M);have ft:∀{a:bU bA} {e:X},a.size=F.size->e<F.size->a.getD e bp=bp->a.getD e br=bp:=(by grind);have a3:∀{a:bU bA} {i:X},a.size=F.size->i∈anD .any F a->i<F.size/\a.getD i bp=br/\∃m,F[i]?=Y m/\∀b∈m.after,anz .any b=bp->a.getD b.on br=bp:=(by grind [Array.getElem?_eq_some_iff,mem_ready]);have first:∀{a:bU bA} {i:X} {K:ajZ},a.size=F.size->left f a=i::K->i∈anD .any F a:=by
  intro a i K D N;have u:i∈left f a:=(by grind);have d1:i∈f:=(iF.1 u).1;have el:a.getD i bp=br:=(by simpa using(iF.1 u).2);obtain⟨h,n,z⟩:=ze d1;obtain⟨ce,_,_,x,co⟩:=I h i n z;obtain⟨m,v⟩:∃m,F[i]?=some m:=⟨_,Cb co⟩;refine mem_ready.2 ⟨el,m,v,λb k s=>?_⟩;have p:b.on∈qd F i:=(Ks v).2 ⟨b,k,s,bo⟩;have fT:b.on∈h:=by
   rcases ce _ p with c|c
   ·cases c
   omega
  have f1:∀j∈h,a.getD j bp=bp:=by
   intro j G;cases em:a.getD j bp with
   |true=>rfl
   |false=>
    obtain⟨J,a4,ad⟩:=ze G;have:left f a=left J a++j::(left a4 a++left (i::n) a):=(by show List.filter _ f=_;rw[z,ad];simp only[left,r8,pD,em,k6,n1];rfl);rw[N] at this;cases c1:left J a with
    |nil=>grind
    |cons f5 fn=>
     rw[c1] at this;cases this;have:i∈left J a:=(by grind);exact absurd (by rw[ad];exact n5 _ (iF.1 this).1) x
  have a1:b.on<F.size:=(by have:b.on∈f:=(by grind);obtain⟨fr,fs,fz⟩:=ze this;grind);grind
 intro q
 induction q with
 |zero=>
  intro a d g w D d5 L l A B;have d7:left f a=[]:=anE.1 aa;rw[d7] at l;refine⟨?_,am d g B (A.seq l)⟩;cases d9:anD .any F a with
  |nil=>rfl
  |cons i fn=>
   obtain⟨y,cs,_⟩:=a3 D (i:=i) (by grind);have:i∈left f a:=iF.2 ⟨Q i y,by grind⟩;grind
 |succ q ex=>
  intro a d g w D d5 L l A B;constructor
  ·intro d9;cases N:left f a with
   |nil=>rw[N] at l;exact am d g B (A.seq l)
   |cons i K=>
    grind
  intro i M;obtain⟨y,cs,m,v,T⟩:=a3 D M;have u:i∈left f a:=iF.2 ⟨Q i y,by grind⟩;obtain⟨h,n,z⟩:=ze (Q i y);obtain⟨_,ci,_,x,_⟩:=I h i n z;have ap:i∉n:=(by intro u;obtain⟨bl,bs,f0⟩:=ze u;have:=(I (h++i::bl) i bs (by grind)).2.2.2.1;grind);have O:left f a=left h a++i::left n a:=(by grind [left,List.filter]);have dl:∀j∈left h a,uO F iw hU j i=bp:=(by intro j G;obtain⟨eq,f3⟩:=iF.1 G;refine ci _ L (λH p=>?_) j (.inr eq) (λG=>by grind);obtain⟨b,k,s,rfl⟩:=(Ks v).1 p;have U:=T b k s;have a1:b.on<a.size:=(by grind);grind);rw[O] at l;obtain⟨b,k,f2⟩:=n9.front dl l;refine k.wp d2 A (λbx fp d0 dg=>ex _ bx fp (b.app w) (by grind) ?_ ?_ ?_ dg (d0.trans B))
  ·rw[Pk O (λc=>x (iF.1 c).1) (λc=>ap (iF.1 c).1) aa];grind
  ·intro e ⟨av,d4⟩ H p;by_cases a0:i=e
   ·subst a0;obtain⟨b,k,s,rfl⟩:=(Ks v).1 p;have U:=T b k s;have a1:b.on<a.size:=by
     grind
    have V:=getD_set_true (i:=i) U;refine⟨?_,aa⟩;have d6:b.on<(a.setIfInBounds i bp).size:=(by grind);have ao:∀S,(a.setIfInBounds i bp).getD b.on S=(a.setIfInBounds i bp)[b.on]:=λS=>(by simp only[Array.getD,d6,ak7];rfl);grind
   rw[anC bp a0] at av;obtain⟨V,cv⟩:=L e ⟨av,d4⟩ H p;refine⟨?_,cv⟩;by_cases d8:i=H
   ·grind
   rw[anC bp d8];exact V
  rw[Pk O (λc=>x (iF.1 c).1) (λc=>ap (iF.1 c).1) aa];omega
theorem J.draw (A:E.P.follows .mixedOrders=bp) (x:ic.ae E C) {g:aO->bw b} {h:b} {id:X} {a:bn lS} (c:uK F iw hU a=bp) (e:tb ic F iw hU (lm a) i g=Y h) (r:∀j,g j=Y h->z .normal j):J E C (.region id F bp) i z:=by
 obtain⟨d,K,p⟩:=AS e;intro n H f u;refine wp_region_any A ?_;have L:left (lm a) (anl F.size br)=lm a:=(by refine mU.2 λB w=>?_;unfold uK at c;simp only[cE,gU] at c;obtain⟨k,l,q⟩:=ze w;have:=(Hu c.1.1.2 c.1.1.1 ac (λD y=>(CO y).elim) (by simp[lm]) (λQ R e=>by cases e) k B l q).2.2.2.2;simp_all);have O:(lm a).length<=F.size:=(by simp_all [gL,eM,cE,lm,uK]);refine UL x bo c (t:=d) (ds:=[]) (λI S v s=>⟨d,r d p,s,v⟩) F.size _ n _ i ac (by grind) ?_ (by grind) ?_ u
 ·intro D ⟨M,N⟩;simp_all
 obtain⟨m,G,o,f⟩:=f;exact⟨m,G,o,f.XA (hl.refl H).drew⟩
end
end
section
def kb:bn aZ->ai->ai
 |[],e=>j0 e
 |.deref::a,.optr d=>.optr (kb a d)
 |.unst::a,.st d=>.st (kb a d)
 |.fst::a,.pr b c=>.pr (kb a b) c
 |.snd::a,.pr b c=>.pr b (kb a c)
 |_,e=>e
def oA:bn aZ->ai->bA
 |[],e=>rn e
 |.deref::a,.optr b=>oA a b
 |.unst::a,.st b=>oA a b
 |.fst::a,.pr c _=>oA a c
 |.snd::a,.pr _ d=>oA a d
 |_,_=>br
def vx:∀(a:bn aZ) (e:ai),oA a e=bp->(kb a e).den=e.den
 |[],e,_=>rq e
 |.deref::a,.optr f,b=>vx a f b
 |.unst::a,.st f,b=>vx a f b
 |.fst::a,.pr c d,b=>by show((kb a c).den×d.den)=(c.den×d.den);rw[vx a c b]
 |.snd::a,.pr c d,b=>by show(c.den×(kb a d).den)=(c.den×d.den);rw[vx a d b]
def x4:∀(a:bn aZ) (c:ai),oA a c=bp->(kb a c).size=c.size
 |[],c,_=>s9 c
 |.deref::a,.optr f,b=>rfl
 |.unst::a,.st f,b=>x4 a f b
 |.fst::a,.pr d e,b=>by simp only[kb,akm,x4 a d b]
 |.snd::a,.pr d e,b=>by simp only[kb,akm,x4 a e b]
def oz (b:bn aZ) (a:ai) (c:oA b a=bp) (d:a.den):(kb b a).den:=cast (vx b a c).symm d
theorem BF {E:dh->X->Prop} {w:bD}:∀{p:bn aZ} {τ:ai} {m:ajT} {x:τ.den} {h:ajZ} (c:oA p τ=bp),aT E w τ m x h->h.Nodup->∃f f2:ajZ,(∀a,a∈h↔a∈f\/a∈f2)/\(∀a∈f,a∉f2)/\f.Nodup/\∀g:dh->X->Prop,(∀o a,E o a->g o a)->(∀a∈f2,g .be a)->aT g w (kb p τ) m (oz p τ c x) f
 |[],τ,m,x,h,c,i,e=>⟨[],h,ac,ac,List.nodup_nil,λg j n=>v7 j c i n⟩
 |.deref::p,.optr y,m,x,h,c,i,e=>by
  obtain⟨a,L,l,G,r,rfl,H,I,J,K⟩:=i;rw[kp] at e;obtain⟨f,f2,ay,s,t,u⟩:=BF (p:=p) (τ:=y) c K e.2;refine⟨a::f,f2,λb=>by simp only[fG,ay];grind,λb d=>?_,?_,λg j n=>?_⟩
  ·rcases fG.1 d with rfl|d
   ·exactλl=>e.1 ((ay b).2 (.inr l))
   exact s b d
  ·rw[kp];exact⟨λl=>e.1 ((ay a).2 (.inl l)),t⟩
  have F:=x4 p y c;exact⟨a,L,f,G,r,bo,by rw[F];exact H,I,by rw[F];exact J,u g j n⟩
 |.unst::p,.st y,m,x,h,c,i,e=>BF (p:=p) (τ:=y) (x:=x) c i e
 |.fst::p,.pr k a,m,x,h,c,i,e=>by
  obtain⟨z,A,rfl,r,B⟩:=i;rw[ji] at e;obtain⟨f,f2,ay,s,t,u⟩:=BF (p:=p) (τ:=k) c r e.1;refine⟨f++A,f2,λb=>by simp only[ha,ay];grind,λb d=>?_,?_,λg j n=>?_⟩
  ·rcases ha.1 d with d|d
   ·exact s b d
   exactλl=>e.2.2 b ((ay b).2 (.inr l)) b d bo
  ·rw[ji];exact⟨t,e.2.1,λb d v D=>e.2.2 b ((ay b).2 (.inl d)) v D⟩
  have q:oz (.fst::p) (.pr k a) c x=(oz p k c x.1,x.2):=Hq (vx p k c).symm bo _ x;refine⟨f,A,bo,?_,?_⟩
  ·rw[x4 p k c,q];exact u g j n
  rw[x4 p k c,q];exact B.mono (λo a C=>⟨j o a C,cp _ _⟩) λ_ _=>cp _ _
 |.snd::p,.pr k a,m,x,h,c,i,e=>by
  obtain⟨z,A,rfl,r,B⟩:=i;rw[ji] at e;obtain⟨f,f2,ay,s,t,u⟩:=BF (p:=p) (τ:=a) c B e.2.1;refine⟨z++f,f2,λb=>by simp only[ha,ay];grind,λb d=>?_,?_,λg j n=>?_⟩
  ·rcases ha.1 d with d|d
   ·exactλl=>e.2.2 b d b ((ay b).2 (.inr l)) rfl
   exact s b d
  ·rw[ji];exact⟨e.1,t,λb d v D=>e.2.2 b d v ((ay v).2 (.inl D))⟩
  have q:oz (.snd::p) (.pr k a) c x=(x.1,oz p a c x.2):=Hq bo (vx p a c).symm _ x;refine⟨z,f,bo,?_,?_⟩
  ·rw[q];exact r.mono (λo a C=>⟨j o a C,cp _ _⟩) λ_ _=>cp _ _
  rw[q];exact u g j n
def p4 (id:X):al->al
 |.ref b []=>.ref b []
 |a=>bif a.fc [id] then .dead else a
def IJ (id:X) (b:bn aZ) (a:aK) (d:oA b a.1=bp) (st:aO):aO:=⟨st.g.map λc=>(c.1,p4 id c.2),(id,⟨kb b a.1,oz b a.1 d a.2⟩)::del [id] st.h⟩
def Xk (id:X) (a:al):(∃b,a=.ref b []/\p4 id a=.ref b [])\/(p4 id a=.dead)\/(p4 id a=a/\a.fc [id]=br):=by
 have d:∀a:al,p4 id a=(bif a.fc [id] then .dead else a)->(∃b,a=.ref b []/\p4 id a=.ref b [])\/(p4 id a=.dead)\/(p4 id a=a/\a.fc [id]=br):=by
  intro a c;cases e:a.fc [id] with
  |true=>rw[e] at c;exact .inr (.inl c)
  |false=>rw[e] at c;exact .inr (.inr ⟨c,bo⟩)
 cases a with
 |ref b f=>
  cases f with
  |nil=>exact .inl ⟨b,bo,bo⟩
  |cons g f=>exact d _ rfl
 |_=>exact d _ rfl
def Xl:∀(a:bn aZ) (c:ai) (b:ajT),a≠[]->oA a c=bp->cV (kb a c) b=cV c b
 |[],_,_,h,_=>absurd rfl h
 |.deref::a,.optr f,b,_,_=>rfl
 |.unst::a,.st f,b,_,_=>rfl
 |.fst::a,.pr d e,b,_,_=>rfl
 |.snd::a,.pr d e,b,_,_=>rfl
section
variable {C:eW} {st:aO} {A:ajR} {w:bD}
def cM.Xe (o:cM C st A w O x y) {id:X} (J:j≠[]) (m:aq st.h id=Y P) (c:oA j P.1=bp):gC C (IJ id j P c st) A w:=by
 obtain⟨R,T,u⟩:=o.tree id P m;obtain⟨v,f2,ay,L,N,Q⟩:=BF c R T;have G:∀n a,bb O C.B n a->bb (λa=>O a\/a∈f2) C.B n a:=by
  intro n a b;cases n
  ·exact .inl b
  exact b.imp .inl (λc=>c)
 have D:=o.eI (S:=[id]) (keep:=[]) (new:=[(id,⟨kb j P.1,oz j P.1 c P.2⟩)]) (rtn:=x) (fpn:=λ_=>v) (w':=w) (I':=λa=>O a\/a∈f2) ⟨bd _,bo,bo,bo,λ_ _ _=>rfl,λ_ _=>.refl _ _,λ_ c=>.inl c,λa b=>b.imp (λc=>c) λb=>⟨(u a ((ay a).2 (.inr b))).2.2.1,.inr ⟨id,ac,P,m,(ay a).2 (.inr b)⟩⟩,(λd U e=>by
    rw[de] at e;split at e
    ·rename_i f;subst f;cases e;refine⟨.inl ac,Q _ G (λa b=>.inr b),N,λa b=>⟨λl=>?_,(u a ((ay a).2 (.inl b))).2.2.1,.inr ⟨id,ac,P,m,(ay a).2 (.inl b)⟩⟩⟩;rcases l with l|l
     ·exact(u a ((ay a).2 (.inl b))).1 l
     exact L a b l
    cases e),
   (λd ad U V e r z=>by
    rw[de] at e r;split at e
    ·split at r
     ·omega
     cases r
    cases e),(λf q=>by cases q),(λf q=>by cases q)⟩
 refine⟨_,_,_,{D with tmp:=λi=>?_}⟩;have s:=o.tmp i;have k:=D.tmp i;rw[show gt (aO.mk (akh [id] [] st.g) ([(id,⟨kb j P.1,oz j P.1 c P.2⟩)]++del [id] st.h)).g i=fC [id] [] (gt st.g i) from p7 _ _ _ _] at k;have H:gt (IJ id j P c st).g i=p4 id (gt st.g i):=IQ (p4 id) rfl st.g i;rw[H];generalize gt st.g i=F at s k;generalize A.getD i bW=V at s k;rcases Xk id F with⟨d,rfl,f⟩|f|⟨f,K⟩
 ·rw[f];by_cases e:d=id
  ·subst e;cases s with|ref E I=>
   rw[m] at E;cases E;obtain⟨rfl,rfl,rfl⟩:=ako.1 I;have:=cQ.ref (M:=bb (λa=>O a\/a∈f2) C.B) (w:=w) (h:=[(d,(⟨kb j P.1,oz j P.1 c P.2⟩:aK))]++del [d] st.h) (rt:=e8 [(d,(⟨kb j P.1,oz j P.1 c P.2⟩:aK))] x x) (fp:=e8 [(d,(⟨kb j P.1,oz j P.1 c P.2⟩:aK))] (λ_=>v) y) (id:=d) (p:=[]) (t:=⟨kb j P.1,oz j P.1 c P.2⟩) (τ':=kb j P.1) (loc:=bq) (cs:=x d)
    (by rw[zi,de,ax bo]) (ako.2 ⟨bo,bo,by unfold e8;split<;>rfl⟩)
   rw[Xl j P.1 _ J c] at this;exact this
  have b:bI id d=br:=by
   cases b:bI id d with
   |false=>rfl
   |true=>exact absurd (ff b).symm e
  have z:(al.ref d []).fc [id]=br:=(by simp[akc,bT,eQ,b]);rw[Ls z] at k;exact k
 ·rw[f];exact .dead _
 rw[f];rw[Ls K] at k;exact k
end
end
section
section
variable {E:fk} {C:eW} {ic:gJ}
def y8.store (g:y8 p c) {w:bD} {b o:X} {v:Value} (k:v.cells=#[v]) (h:v.oneCell'=bp) (e:iE w b o (o+1)):(storeVar c ⟨b,o,bq⟩ v).run p w=.ok () (w.setCells b o [v]):=by obtain⟨n,x,m,ay,l,q,r,s,t⟩:=g;have j:=run_storeCells_cells (P:=p) b o [v] 0 w (λd a=>by simpa using(e (o+d) aa (by simp at a;omega)).1) (λd a=>by simpa using(e (o+d) aa (by simp at a;omega)).2) (λu f=>by rw[fg] at f;subst f;exact h);have i:(akK c).run p w=.ok 1 w:=(by simp[akK,akr,ay,l]);simp only[storeVar,k,bY,i,b2];simpa using j
def Lw (a:h.guard=bq) (b:X->bw bA):amw h b=bp:=by unfold amw;rw[a]
end
end
section
def Hm (ic:gJ) (p:bU bS) (c:aO):bw aO:=
 match p.toList with
 |[rC,d,e]=>match rC.guard,d.guard,e.guard with
  |none,bq,bq=>match rC.op,rC.dst,d.op,d.dst,e.op,e.dst with
   |.makeFunc (.func j) o i,Y b,.alloc f,Y a,.store k (.tmp l) (.tmp m),bq=>match aq ic.tt f with
    |some (.fn _ _)=>bif (bI f k&&(bI a l&&(bI b m&&!(bI a b))))&&(o.isEmpty&&(gu ic.n ic.pin a&&gu ic.n ic.pin b)) then
     Y ⟨(a,.hz (.da j (i.toList.map (aU c.g))))::(b,.da j (i.toList.map (aU c.g)))::c.g,c.h⟩ else bq
    |_=>bq
   |_,_,_,_,_,_=>bq
  |_,_,_=>bq
 |_=>bq
section
variable {E:fk} {C:eW} {ic:gJ}
theorem J.zH (am:ic.ae E C) {N:bU bS} {id:X} {ap:aO} (f:Hm ic N i=Y ap) (eq:z .normal ap):J E C (.region id N br) i z:=by
 have an:=λa1=>gu.ok am (d:=a1);have fr:=am.1;unfold Hm at f;split at f
 case h_2=>cases f
 rename_i r s t hw;split at f
 case h_2=>cases f
 rename_i c2 dg dl;split at f
 case h_2=>cases f
 rename_i a Q q m k l a3 a4 co fT cs i1 cv i2 c1;split at f
 case h_2=>cases f
 rename_i i0 kd A;cases hcond:(bI k a3&&(bI l a4&&(bI m co&&!(bI l m))))&&(Q.isEmpty&&(gu ic.n ic.pin l&&gu ic.n ic.pin m)) with
 |false=>grind
 |true=>
 rw[hcond] at f;simp only[bH,eT] at f;subst f;simp only[cE] at hcond;obtain⟨⟨bl,bs,bx,gi⟩,gl,ce,ci⟩:=hcond;obtain rfl:=ff bl;obtain rfl:=ff bs;obtain rfl:=ff bx;have hv:¬l=m:=λgo=>(by grind);have U:=an _ ce;have ad:=an _ ci;rw[fr] at A;obtain⟨ft,i3,i8,kg,f6,f7,_,f8,f9⟩:=E.ok k _ A;have A:y8 E.P k:=⟨ft,.nilFunc,_,f6,f7,f8,bo,f9,bo⟩;have jp:alb.cells.size=1:=rfl;have ek:Q=#[]:=(by grind);subst ek;obtain rfl:N=#[r,s,t]:=(by grind);rintro e w ⟨G,O,I,K⟩ d5;have gc:(#[r,s,t]:bU bS)[0]?=Y r:=rfl;have ge:(#[r,s,t]:bU bS)[1]?=Y s:=rfl;have gf:(#[r,s,t]:bU bS)[2]?=Y t:=rfl;have f3:(bO e.eval r).run E.P w=.ok (.value (.func (.func a) #[] (q.map e.eval))) w:=(by simp[bO,fT,Instr.makeFunc]);have io:q.toList.length=(q.map e.eval).size:=ac;have fs:∀(x:X) (y:Value),(q.map e.eval)[x]?=Y y->∃F,q.toList[x]?=Y F/\y=e.eval F:=λx y hs=>(by grind);generalize q.map e.eval=c at*;generalize L:e.put (Y m) (.func (.func a) #[] c)=u;have hi:m<e.tmps.size:=(by rw[K.n];exact ad.1);have gt:l<e.tmps.size:=(by rw[K.n];exact U.1);have fn:u.tmps=e.tmps.setIfInBounds m (.func (.func a) #[] c):=(by rw[<-L];rfl);have d6:u.defers=e.defers:=(by rw[<-L];rfl);have f4:(bO u.eval s).run E.P w=.ok (.value (.pointer (Y ⟨w.heap.size,0,bq⟩))) (w.alloc (.cells alb.cells k)):=(by simp_all [bO,Instr.alloc,akg,akr,newVar,akD]);generalize M:u.put (Y l) (.pointer (Y ⟨w.heap.size,0,bq⟩))=p;have fp:p.tmps=u.tmps.setIfInBounds l (.pointer (Y ⟨w.heap.size,0,bq⟩)):=(by rw[<-M];rfl);have d7:p.defers=u.defers:=(by rw[<-M];rfl);have d4:p.tmps.getD l bW=.pointer (Y ⟨w.heap.size,0,bq⟩):=(by simp_all);have d8:p.tmps.getD m bW=.func (.func a) #[] c:=(by simp_all);have hc:((w.alloc (.cells alb.cells k)).cell? ⟨w.heap.size,0,bq⟩).isSome=bp:=(by simp_all);have ex:(w.alloc (.cells alb.cells k)).heap.size=w.heap.size+1:=(by simp_all);have d9:iE (w.alloc (.cells alb.cells k)) w.heap.size 0 (0+1):=ant aa;have D:hl w (w.alloc (.cells alb.cells k)):=akN w _;generalize is:w.alloc (.cells alb.cells k)=j at*;have f5:(bO p.eval t).run E.P j=.ok .skip (j.setCells w.heap.size 0 [.func (.func a) #[] c]):=(by have ib:=A.store (w:=j) (b:=w.heap.size) (o:=0) (v:=.func (.func a) #[] c) rfl rfl d9;have ao:p.eval (.tmp l)=.pointer (Y ⟨w.heap.size,0,bq⟩):=d4;have gs:p.eval (.tmp m)=.func (.func a) #[] c:=d8;simp_all [bO,Instr.storeAt,alo]);have fz:∀H:b6->Act->bD->Prop,H .normal p (j.setCells w.heap.size 0 [.func (.func a) #[] c])->wpOps E.P #[r,s,t] H [0,1,2] e w:=(by intro H d1;simp only[wpOps,gc,ge,gf];rw[ax (Lw c2 _)];refine .inl ?_;unfold aj9;rw[f3,aow,cs,L,ax (Lw dg _)];refine .inl ?_;rw[f4,aow,cv,M,ax (Lw dl _)];refine .inl ?_;rw[f5,Oper.upon_skip,c1];exact d1);refine wp_region (fz _ ?_);have em:(j.setCells w.heap.size 0 [.func (.func a) #[] c]).cell? ⟨w.heap.size,0,bq⟩=Y (.func (.func a) #[] c):=
  alW w.heap.size [.func (.func a) #[] c] 0 j (λix hr=>by
   grind) 0 ac
 have el:hl w (j.setCells w.heap.size 0 [.func (.func a) #[] c]):=(by obtain⟨f0,f1,f2⟩:=po w.heap.size [.func (.func a) #[] c] 0 j;exact⟨f0.trans D.os,f1.trans D.tape,f2.trans D.output,by grind [tM],λb d3=>(yR _ _ _ _ _ aa).trans (D.heap b d3)⟩);have ii:(j.setCells w.heap.size 0 [.func (.func a) #[] c]).heap.size=w.heap.size+1:=(by rw[tM,ex]);generalize j.setCells w.heap.size 0 [.func (.func a) #[] c]=a0 at*;have T:cM C i e.tmps a0 (λb=>G b\/b=w.heap.size) O I:=by
  have:=K.ext (I':=λb=>G b\/b=w.heap.size) (rtn:=O) (fpn:=I) el (λ_ ds=>.inl ds) (by
   grind) (new:=[]) .nil
  exact this
 have V:cQ (bb (λb=>G b\/b=w.heap.size) C.B) a0 i.h O I (.da a (q.toList.map (aU i.g))) (.func (.func a) #[] c):=(by refine .da (by grind) (λx av y R d0=>?_);obtain⟨F,ay,rfl⟩:=fs x y d0;rw[jI,ay] at R;cases R;exact T.aU F);have d2:=(T.put ad V);have S:=d2.put U (av:=.hz (.da a (q.toList.map (aU i.g)))) (v:=.pointer (Y ⟨w.heap.size,0,bq⟩)) (.hz (.inr bo) em bo V);rw[<-fn,<-fp] at S;exact⟨_,eq,⟨_,_,_,S⟩,d7.trans (d6.trans d5)⟩
end
end
section
inductive GD where
 |none
 |x (l:ajZ) (BR:nq)
 |wo (l:ajZ) (BR:nq)
inductive GF where
 |r
 |x (id:X) (BR:nq)
 |wo (id:X) (BR:nq)
inductive mj where
 |leaf
 |one (a:mj)
 |two (j:GD) (a b:mj)
 |loop (BR:nq) (m:GF) (a:mj)
 |keep (l:ajZ) (a:mj)
 |p5 (F:ajZ) (a:mj)
 |fp (id:X) (p:bn aZ) (a:mj)
 |draw (L:bn lS)
 |zH
def ET:bn lS->X->ajZ
 |[],_=>[]
 |r::b,a=>bif bI r.i a then r.iw else ET b a
def Fm:bn lS->X->ajZ
 |[],_=>[]
 |r::b,a=>bif bI r.i a then r.hU else Fm b a
def MN {A:Type} (id:X) (b:b6->aO->bw A):b6->aO->bw A
 |.exit c,a=>match bI c id with
  |true=>b .normal a
  |false=>b (.exit c) a
 |e,a=>b e a
def X0 {a:Type} (c:aO->bw a):b6->aO->bw a
 |.normal,b=>c b
 |_,_=>bq
def X1 {b A:Type} (d:aO->bw b) (c:b6->aO->bw A):b6->aO->bw (b⊕A)
 |.normal,a=>(d a).map .inl
 |e,a=>(c e a).map .inr
def BP {A:Type} (c:aO->bw A) (b:b6->aO->bw A):b6->aO->bw A
 |.normal,a=>c a
 |e,a=>b e a
def YK {b A:Type} (d:aO->bw b) (c:b6->aO->bw A):b6->aO->bw (b⊕A)
 |.normal,a=>(d a).map .inl
 |e,a=>(c e a).map .inr
def Px {b c:Type} (e:aO->bw b) (id:X) (f:aO->bw c):b6->aO->bw (b⊕c)
 |.normal,a=>(e a).map .inl
 |.exit d,a=>match bI d id with
  |true=>(f a).map .inr
  |false=>bq
 |_,_=>bq
def Py {f g A:Type} (h:aO->bw f) (id:X) (i:aO->bw g) (c:b6->aO->bw A):b6->aO->bw (f⊕(g⊕A))
 |.normal,a=>(h a).map .inl
 |.exit d,a=>match bI d id with
  |true=>(i a).map λb=>.inr (.inl b)
  |false=>(c (.exit d) a).map λb=>.inr (.inr b)
 |e,a=>(c e a).map λb=>.inr (.inr b)
def hJ:gJ->mj->Code->aO->(A:Type)->(b6->aO->bw A)->bw A
 |ic,.leaf,d,a,_,b=>match d with
  |.skip=>b .normal a
  |.exit id=>b (.exit id) a
  |.ret=>b .ret a
  |.region _ l br=>ll ic l (bL l.size) a (b .normal)
  |_=>bq
 |ic,.one e,d,a,A,b=>match d with
  |.block id j=>hJ ic e j a A (MN id b)
  |_=>bq
 |ic,.two w e q,d,a,A,b=>match d with
  |.seq j p=>match w with
   |.none=>hJ ic e j a A (BP (λf=>hJ ic q p f A b) b)
   |.x k c=>match tc a.g k with
    |some i=>(hJ {ic with pin:=k++ic.pin,kg:=i++ic.kg} e j a c.den (X0 (proj c))).bind λm=>hJ ic q p (vn {ic with pin:=k++ic.pin,kg:=i++ic.kg} c m) A b
    |none=>bq
   |.wo k c=>match tc a.g k with
    |some i=>(hJ {ic with pin:=k++ic.pin,kg:=i++ic.kg} e j a (c.den⊕A) (X1 (proj c) b)).bind λ
     |.inl m=>hJ ic q p (vn {ic with pin:=k++ic.pin,kg:=i++ic.kg} c m) A b
     |.inr i=>Y i
    |none=>bq
  |.cond t j p=>match aU a.g t with
   |.val .bool z=>match z with
    |true=>hJ ic e j a A b
    |false=>hJ ic q p a A b
   |_=>bq
  |_=>bq
 |ic,.loop c y e,d,a,A,b=>match d with
  |.loop j=>(proj c a).bind λu=>match y with
   |.r=>(loop (λf=>hJ ic e j (vn ic c f) (c.den⊕A) (YK (proj c) b)) u).bind Y
   |.x id n=>(loop (λf=>hJ ic e j (vn ic c f) (c.den⊕n.den) (Px (proj c) id (proj n))) u).bind λm=>b (.exit id) (vn ic n m)
   |.wo id n=>(loop (λf=>hJ ic e j (vn ic c f) (c.den⊕(n.den⊕A)) (Py (proj c) id (proj n) b)) u).bind λ
    |.inl m=>b (.exit id) (vn ic n m)
    |.inr i=>Y i
  |_=>bq
 |ic,.draw o,d,a,_,b=>match d with
  |.region _ l bp=>bif uK l (ET o) (Fm o) o then tb ic l (ET o) (Fm o) (lm o) a (b .normal) else bq
  |_=>bq
 |ic,.zH,d,a,_,b=>match d with
  |.region _ l br=>match Hm ic l a with
   |some f=>b .normal f
   |none=>bq
  |_=>bq
 |ic,.p5 v e,d,a,A,b=>bif nE a.h v then hJ ic e d (s8 v a) A b else bq
 |ic,.fp id s e,d,a,A,b=>match aq a.h id,s with
  |some t,f::s=>if h:oA (f::s) t.1=bp then hJ ic e d (IJ id (f::s) t h a) A b else bq
  |_,_=>bq
 |ic,.keep k e,d,a,A,b=>match tc a.g k with
  |some i=>hJ {ic with pin:=k++ic.pin,kg:=i++ic.kg} e d a A b
  |none=>bq
section
variable {E:fk} {C:eW} {ic:gJ} {A:Type}
theorem J.post (s:pz C T) {e:Code} (k:J E C e i (λf c=>z f c\/∃(d a:aO),z f d/\d=⟨T++a.g,a.h⟩/\o5 a.g c/\o6 a.h c/\mE a.g a.h=bp)):J E C e i z:=
 λj t q r=>wp_mono (k j t q r) (λ_ _ _ ⟨c,b,o,p⟩=>by
  rcases b with b|⟨d,a,b,rfl,l,m,n⟩
  ·grind
  exact⟨_,b,(o.zK l m n).kg s,p⟩)
theorem l6:∀{am:mj} {C:eW} {ic:gJ} {m:Code} {j:aO} {A:Type} {k:b6->aO->bw A} {r:A} {l:b6->aO->Prop},ic.ae E C->hJ ic am m j A k=Y r->(∀e i,k e i=Y r->l e i)->J E C m j l
 |.leaf,C,ic,m,j,A,k,r,l,b,a,d=>by
  simp only[hJ] at a;split at a
  ·grind [J.skip]
  ·grind [J.exit]
  ·grind [J.ret]
  ·grind [J.region,XM]
  grind
 |.one q,C,ic,m,j,A,k,r,l,b,a,d=>by
  simp only[hJ] at a;split at a
  ·refine J.block (l6 b a ?_);intro e i c;cases e with
   |exit M=>
    grind [Hk,MN]
   |_=>exact d _ _ c
  grind
 |.two M q cs,C,ic,m,j,A,k,r,l,b,a,d=>by
  simp only[hJ] at a;split at a
  ·rename_i x co;refine J.seq ?_;split at a
   ·refine l6 b a ?_;intro e i c;cases e with
    |normal=>exact l6 b c d
    |_=>exact d _ _ c
   ·rename_i D F;split at a
    case h_2=>cases a
    rename_i Q L;obtain⟨n,B,a⟩:=eL.1 a;refine J.keep b.2.2.2.2 L (λS s t o u v=>J.post o (l6 (ic:={ic with pin:=D++ic.pin,kg:=Q++ic.kg}) ⟨b.1,b.2.1.trans s.symm,by rw[t,<-b.2.2.1],⟨b.2.2.2.1.1,u _ b.2.2.2.1.2.1,b.2.2.2.1.2.2.1,v b.2.2.2.1.2.2.2.1,b.2.2.2.1.2.2.2.2⟩,o⟩ B ?_));intro e i c;cases e with
    |normal=>exact .inr ⟨_,_,l6 b a d,bo,tG c⟩
    |_=>cases c
   rename_i D F;split at a
   case h_2=>cases a
   rename_i Q L;obtain⟨n,B,a⟩:=eL.1 a;refine J.keep b.2.2.2.2 L (λS s t o u v=>J.post o (l6 (ic:={ic with pin:=D++ic.pin,kg:=Q++ic.kg}) ⟨b.1,b.2.1.trans s.symm,by rw[t,<-b.2.2.1],⟨b.2.2.2.1.1,u _ b.2.2.2.1.2.1,b.2.2.2.1.2.2.1,v b.2.2.2.1.2.2.2.1,b.2.2.2.1.2.2.2.2⟩,o⟩ B ?_));intro e i c;cases e with
   |normal=>
    obtain⟨bs,g,f⟩:=fl.1 c;cases f;exact .inr ⟨_,_,l6 b a d,bo,tG g⟩
   |_=>
    obtain⟨bs,g,f⟩:=fl.1 c;cases f;cases a;exact .inl (d _ _ g)
  ·rename_i ce x co;split at a
   ·rename_i c1 a1;refine J.cond a1 (λe=>?_) (λe=>?_)
    ·subst e;exact l6 b a d
    subst e;exact l6 b a d
   grind
  grind
 |.loop F a3 q,C,ic,m,j,A,k,r,l,b,a,d=>by
  simp only[hJ] at a;split at a
  case h_2=>cases a
  rename_i x;obtain⟨cv,ap,a⟩:=eL.1 a;obtain⟨N,O,P⟩:=tG ap;refine J.post b.2.2.2.2 ?_;cases a3 with
  |r=>
   refine J.loop (lg F) a N O P ?_;intro i T y z;refine J.kg b.2.2.2.2 (l6 b y ?_);intro e U c;cases e with
   |normal=>
    obtain⟨n,g,f⟩:=fl.1 c;grind [tG]
   |_=>
    obtain⟨n,g,f⟩:=fl.1 c;cases f;cases z;exact⟨(λa=>by cases a),.inl (d _ _ g)⟩
  |x id ci=>
   refine J.loop (lg F) a N O P ?_;intro i T y z;refine J.kg b.2.2.2.2 (l6 b y ?_);intro e U c;cases e with
   |normal=>
    obtain⟨n,g,f⟩:=fl.1 c;grind [tG]
   |exit M=>
    simp only[Px] at c;split at c
    ·rename_i K;obtain rfl:=ff K;obtain⟨n,g,f⟩:=fl.1 c;cases f;exact⟨(λa=>by cases a),.inr ⟨_,_,d _ _ z,bo,tG g⟩⟩
    grind
   |_=>cases c
  |wo id ci=>
   refine J.loop (lg F) a N O P ?_;intro i T y z;refine J.kg b.2.2.2.2 (l6 b y ?_);intro e U c;cases e with
   |normal=>
    obtain⟨n,g,f⟩:=fl.1 c;grind [tG]
   |exit M=>
    simp only[Py] at c;split at c
    ·rename_i K;obtain rfl:=ff K;obtain⟨n,g,f⟩:=fl.1 c;cases f;exact⟨(λa=>by cases a),.inr ⟨_,_,d _ _ z,bo,tG g⟩⟩
    grind [aou]
   |_=>
    obtain⟨n,g,f⟩:=fl.1 c;grind
 |.draw G,C,ic,m,j,A,k,r,l,b,a,d=>by
  simp only[hJ] at a;split at a
  case h_2=>cases a
  rename_i id a4;cases w:uK a4 (ET G) (Fm G) G with
  |false=>grind
  |true=>
  rw[w] at a;exact J.draw E.mix b w a (λi c=>d _ i c)
 |.zH,C,ic,m,j,A,k,r,l,b,a,d=>by simp only[hJ] at a;grind [J.zH]
 |.p5 V q,C,ic,m,j,A,k,r,l,b,a,d=>by
  simp only[hJ] at a;cases w:nE j.h V with
  |false=>grind
  |true=>
  rw[w] at a;intro H R p I;obtain⟨ad,bx,an,p⟩:=p;exact l6 b a d H R (p.freeze (nE.ok w)) I
 |.fp id bl q,C,ic,m,j,A,k,r,l,b,a,d=>by
  simp only[hJ] at a;split at a
  case h_2=>cases a
  rename_i ce i bl a0;split at a
  case isFalse=>cases a
  rename_i av;intro H R p I;obtain⟨ad,bx,an,p⟩:=p;exact l6 b a d H R (p.Xe ac a0 av) I
 |.keep D q,C,ic,m,j,A,k,r,l,b,a,d=>by
  simp only[hJ] at a;split at a
  case h_2=>cases a
  rename_i n B;refine J.keep b.2.2.2.2 B ?_;intro S s t o u v;exact l6 (ic:={ic with pin:=D++ic.pin,kg:=n++ic.kg}) ⟨b.1,b.2.1.trans s.symm,by rw[t,<-b.2.2.1],⟨b.2.2.2.1.1,u _ b.2.2.2.1.2.1,b.2.2.2.1.2.2.1,v b.2.2.2.1.2.2.2.1,b.2.2.2.1.2.2.2.2⟩,o⟩ a d
end
end
end Go.jt
end
