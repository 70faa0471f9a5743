/-
  Parts of the proof: Fw38, Fw22, Fw23, Fw26, Fw27, Fw28, Fw34, Fw35, Fw37, Fw42, Fw45, Fw24, Fw29, Fw31, Fw32, Fw33, Fw48, Fw39, Fw49, Fw30: the framework (Fw), pure forms (Dn), plain laws (Pl, Th), calls of functions (Ok).
-/
import Derived.Laws.StructEq
import Derived.Test.YthlmgdleldkpnaaGreatDoorBfa63599f

set_option linter.all false
set_option maxHeartbeats 1000000
open _root_ renaming Nat->X,List->bp,Array->bW,Option->bv,rfl->bq,False->b7,and_true->cf,Unit->bz,Bool->bD,cond_true->bI,Int->Z,if_true->cq,cond_false->bQ,dif_pos->anS,congrArg->b9,of_decide_eq_true->aoH,decide_eq_true->amA
open Go renaming TypeId->bH,Oper->bU,Operand->bO,Exit->b8,World->bF,Program->b2,execOp->bP,resolve->anf,ResultVar->amB,undef->bY,Code->cx,IntKind->cn,Field->amS,sizeOf->anm,zeroValue->amN,typeInfo->am1,run_underlying->cd,newRow->ang,Addr->ck,builtin->anz,MapEntry->cp,asIntOf->anN,binOp->amI,eqGuard->anx,getD_set_ne->aqh
open Bool renaming true->bt,false->bu,true_and->aoE,and_true->aoF,false_and->ap5
open Option renaming some->Y,none->br,isSome_none->apT,isSome_some->ao6,bind->bE,bind_eq_some_iff->anW,map_eq_some_iff->arf
open Option.some renaming inj->am0,injEq->anV
open List renaming nodup_append->ap0,mem_flatten->an3,mem_of_getElem?->aot,flatten_cons->anU,all_nil->ap2,all_eq_true->anK,replicate->bM,any_eq_false->ap4,map_congr_left->amU,map_id'->ap6,length->cE,mem_singleton->amF,range->bK,length_append->amX,length_take->am5,length_drop->aqa,map_toArray->ao9,getElem?_take->ao0,getElem_mem->ca,getElem?_eq_getElem->bZ,getElem?_eq_some_iff->anL,getElem?_inj->ao7,mem_append_left->aqd,mem_append_right->ape,append_eq_nil_iff->apN,filter_eq_self->an5,filter->aoI
open Go.j5.dm renaming refl->cu,of_heap->ap3
open Go.j5.aZ renaming here->aoa,gK->amY
open Go.j5 renaming kill->amO,run_getObj_map->aod
open Go.Sem renaming run_bind->b0,run_pure->cz
open Go.Result renaming andThen_ok->b4,ok->are
open Go.Oper renaming wp->amH,upon_value->ari
open Pure renaming pure->anQ
open Array renaming mapM_eq_mapM_toList->apQ,replicate->ap1,getD_eq_getD_getElem?->apZ,map->ao4,mem_append_right->anh
open Go.Value.slice renaming injEq->amE
open Nat renaming sub_zero->aob,beq->bL,eq_of_beq_eq_true->anl,blt->cg,ble->b5,mul_one->aoc,beq_refl->an9,lor->aqf,testBit_or->arh,testBit_two_pow->aqg
open List.Perm renaming append_left->apg
open Go.j5.ao renaming ids->bV,pi->anA,fF->amK
open BitVec renaming ofInt->cl
open Int renaming toNat_of_nonneg->arc
open Go.World renaming cell?->anR,frozen?_setCells->apY,cell?_setCells_in->aoD,cell?_setCells_out->apd
open Go.j5.bg renaming size->ap7
open Go.j5.ak renaming size->amW
open Go.j5.fi renaming eval->ano
open Go.j5.hL renaming alloc->anp
open Go.Instr renaming box->ao3,mapEntry->aqb,mapUpdate->ann,keyThatStays->an7,sameBits->apU,entryStore->ard,sureAddr->an4
open Go.j5.fG renaming alloc->ap8
open Go.j5.jf renaming alloc->ap9
open Go.j5.aW renaming pure->anB
open Go.Value renaming map->an8,int->amJ,nilFunc->anX
open Go.MapEntry renaming mk->aoZ
open Go.Result.ok renaming injEq->aqc
open Go.Op renaming equalIn->anM,equal->aov,maxDepth->aow,eqFields->aph,operands->bX
open Go.j5.Yields renaming wp->aoG
open Go.Addr renaming add_lit->anw
open Go.Addr.mk renaming injEq->amR
open Go.j5.iM renaming op->aoe
open Go.Call renaming operands->am6
open Go.Region renaming binds->aqe,ready->aqi,wanted->apf
noncomputable section
namespace Go.j5
variable{a m:X}{b:Type}{c r:bH}{d t:ao}{e:bp (X×aI)}{f w:amu}{g:bp (X×bp a6)}{h:bU}{i:aR}{j:bp a6}{k Q:ak}{l:bp (X×ak)}{n N:bO}{o:b8->Act->bF->Prop}{p:b2}{s:bW (X×bO)}{u:aR->Prop}{v:bF}{x:X->amo}{y:X->amu}{z:b8->aR->Prop}{O:X->Prop}{P:aI}{R:Value}{S:bp (X×ao)}{T:eM->X->Prop}{U:amo}{V:bO->ao}
section
def uR:bp ao->amr->bv (X×bp a6)
 |.ref id (c::b)::_,bt::_=>Y (id,c::b)
 |_::as,_::a=>uR as a
 |_,_=>br
def rD (id:X) (a:ao):ao:=bif a.fF [id] then .dead else a
def ns (id:X):bp ao->amr->bp ao
 |.ref _ (_::_)::as,bt::_=>.ref id []::as.map (rD id)
 |a::as,_::b=>rD id a::ns id as b
 |as,_=>as.map (rD id)
def lx {a:Type} (c:X->a) (d:X) (e:a):X->a:=λb=>if b=d then e else c b
theorem oE {d:X->b} {c:b}:lx d a c a=c:=by simp[lx]
theorem lU {c:X->b} {e:b} (d:a≠m):lx c m e a=c a:=by simp[lx,d]
section
variable {E:fP} {C:fg} {st:aR} {A:eB} {w w':bF} {I I':X->Prop} {rt:X->amo} {fp:X->amu}
theorem uv {id:X} (a:X):ax ((id,P)::del [id] e) a=if id=a then Y P else ax e a:=by
 rw[eJ];split
 ·rfl
 rename_i b;rw[nO,aw ae]
theorem cW.split (e:cW C st A w I rt fp) {id:X} (n:ax st.h id=Y P) {j:k.den} {z:amu} (E:aW (bi I C.B) w k U j f) (v:(fp id).Perm (f++z)):cW C ⟨[],(id,⟨k,j⟩)::del [id] st.h⟩ A w I (lx rt id U) (lx fp id f):=by
 obtain⟨_,F,G⟩:=e.tree id P n;have r:∀c∈f,c∈fp id:=λc d=>v.mem_iff.2 ae;have l:∀a b,ax ((id,(⟨k,j⟩:aI))::del [id] st.h) a=Y b->(a=id/\b=⟨k,j⟩)\/(a≠id/\ax st.h a=Y b):=λa b q=>(by grind [am0,uv]);refine{e with tree:=?_,dis:=?_,tmp:=λa=>.dead _}
 ·intro a b q;rcases l a b q with⟨rfl,rfl⟩|⟨g,i⟩
  ·grind [ap0,oE]
  rw[lU g,lU g];exact e.tree a b i
 intro x y b D t u m c d;rcases l x b t with⟨rfl,rfl⟩|⟨g,i⟩<;>rcases l y D u with⟨rfl,rfl⟩|⟨o,p⟩
 ·omega
 ·rw[oE] at d;rw[lU o];exact e.dis _ _ _ _ n p m c (r c d)
 ·rw[lU g] at d;rw[oE];exactλs=>e.dis _ _ _ _ i n m c d (r c s)
 rw[lU g] at d;rw[lU o];exact e.dis _ _ _ _ i p m c d
def c0.rD (l:cW C st A w I rt fp) {id:X} {q:aI} {i:amo} {j:amu} {a:ao} {f:Value} (k:c0 (bi I C.B) w st.h rt fp a f):c0 (bi I C.B) w ((id,q)::del [id] st.h) (lx rt id i) (lx fp id j) (rD id a) f:=by
 unfold j5.rD;cases o:a.fF [id] with
 |true=>exact .dead _
 |false=>
  refine k.uB (λr g n=>⟨n,cu _ _⟩) (λd m p e=>?_);have c:d≠id:=λb=>MH o d m (by simp[b]);refine⟨?_,lU c,lU c,(l.tree d p e).1,λg _=>cu _ _⟩;rw[uv,aw (λb=>c b.symm)];exact e
theorem V2 (p:cW C st A w I rt fp) {id:X} (F:ax st.h id=Y P) {y:k.den} {u:Loc} {f:amu} {r:a6} (D:aZ w P.1 br (rt id) (r::j) k u U):∀{d:bp ao} {c:amr} {a:amo},i5 (c0 (bi I C.B) w st.h rt fp) d a->uR d c=Y (id,r::j)->i5 (c0 (bi I C.B) w ((id,⟨k,y⟩)::del [id] st.h) (lx rt id U) (lx fp id f)) (ns id d c) a:=by
 have G:∀{d:bp ao} {a:amo},i5 (c0 (bi I C.B) w st.h rt fp) d a->i5 (c0 (bi I C.B) w ((id,⟨k,y⟩)::del [id] st.h) (lx rt id U) (lx fp id f)) (d.map (j5.rD id)) a:=by
  intro d
  induction d with
  |nil=>intro a b;cases a with|nil=>trivial|cons=>exact b.elim
  |cons e n o=>intro a b;cases a with|nil=>exact b.elim|cons H a=>exact⟨b.1.rD p,o b.2⟩
 intro d
 induction d with
 |nil=>intro c a _ b;cases c<;>cases b
 |cons e n o=>
  intro c a b i;cases a with
  |nil=>exact b.elim
  |cons H a=>
  cases c with
  |nil=>cases e<;>first|(cases i;done)|(rename_i m g;cases g<;>cases i)
  |cons l c=>
   by_cases z:∃m s g,e=.ref m (s::g)/\l=bt
   ·obtain⟨m,s,g,rfl,rfl⟩:=z;simp only[uR,e9,iN,ij] at i;obtain⟨rfl,rfl,rfl⟩:=i;have x:=b.1;cases x with|ref q E=>
    rw[F] at q;cases q;obtain⟨rfl,rfl,rfl⟩:=E.lj D;refine⟨.ref (t:=⟨_,y⟩) (loc:=br) (by rw[uv,ay bq]) ?_,G b.2⟩;rw[oE];exact aoa
   have ar:uR (e::n) (l::c)=uR n c:=by cases e<;>first|rfl|(rename_i m g;cases g<;>cases l<;>first|rfl|grind)
   have v:ns id (e::n) (l::c)=j5.rD id e::ns id n c:=by cases e<;>first|rfl|(rename_i m g;cases g<;>cases l<;>first|rfl|grind)
   rw[ar] at i;rw[v];exact⟨b.1.rD p,o b.2 i⟩
theorem ob.aeI (J:cW C st A w I rt fp) {id:X} (z:ax st.h id=Y P) {x:k.den} (em:e2 P.1 P.2 j k x) {av:Loc} (co:aZ w P.1 br (rt id) j k av U):∃p u,aW (bi I C.B) w k U x p/\(fp id).Perm (p++u)/\∀{w':bF} {I':X->Prop} {s:amu} {K:bp (X×bp a6)} {D:bp (X×aI)} {N:X->amo} {E:X->amu} {O:k.den} {t:P.1.den},ob C ⟨[],(id,⟨k,x⟩)::del [id] st.h⟩ w w' I I' (lx rt id U) (lx fp id p) s K D N E->id∈s->ax D id=Y ⟨k,O⟩->(id,[])∈K->(∀m∈K,m.2=[])->fq P.1 P.2 j k O t->∃ds d5,ob C st w w' I I' rt fp s ((id,j)::K) ((id,⟨P.1,t⟩)::D) ds d5/\∀l,l≠id->ds l=N l:=by
 obtain⟨f0,dl,f1⟩:=J.tree id P z;obtain⟨hr,f7,p,u,d6,d7,d8,G,gc,d9,ek⟩:=Bv j (loc:=br) f0 (λ_ _ b=>by cases b) dl (λ_ _ b=>by cases b) (J.notM z) em;obtain⟨_,rfl,rfl⟩:=co.lj d6;refine⟨p,u,d7,G,λ{w' I' s K D N E O t} f bs V q ex cs=>?_⟩;have gt:∀a∈p,a∈fp id:=λa c=>G.mem_iff.2 ae;have gi:=jR.1 (G.nodup_iff.1 dl);have M:∀a,(∃d∈s,∃e,ax ((id,(⟨k,x⟩:aI))::del [id] st.h) d=Y e/\a∈lx fp id p d)->∃d∈s,∃e,ax st.h d=Y e/\a∈fp d/\(d=id->a∈p):=by
  rintro a ⟨d,o,e,g,c⟩;by_cases m:d=id
  ·grind [oE]
  rw[uv,aw (λd4=>m d4.symm)] at g;grind [lU]
 have am:∀a∈u,a<w.heap.size/\¬∃d∈s,∃e,ax ((id,(⟨k,x⟩:aI))::del [id] st.h) d=Y e/\a∈lx fp id p d:=λa c=>by
  have L:a∈fp id:=G.mem_iff.2 ae;refine⟨(f1 a L).2.2.1,λb=>?_⟩;obtain⟨d,_,e,g,n,H⟩:=M a b;by_cases m:d=id
  ·grind
  exact J.dis d id e P g z m a n L
 have R:∀a∈u,w'.heap[a]?=w.heap[a]?:=λa c=>f.heap a (am a c).1 (λd o e g b=>(am a c).2 ⟨d,o,e,g,b⟩);have ge:∀F a,bi I C.B F a->dm w w' a:=λF a T=>.of_heap (f.heap a (J.ib a (nP T)) (λd o e g b=>by
  obtain⟨d,_,e,g,n,_⟩:=M a ⟨d,o,e,g,b⟩;exact J.notM g a n F T))
 obtain⟨_,an,hs,bj⟩:=f.tree id _ V;obtain⟨v,hc,_,cv,_⟩:=f.keep _ q ⟨k,x⟩ (by rw[uv,ay bq]);simp only[oE] at cv;rw[cv] at an;have d3:∀a,dm w w' a->ta w w' av k.size a:=λa b=>⟨λr _=>(b.1 r).1,λr=>(b.1 r).2,λr=>by rw[(b.1 r).1],b.2⟩;obtain⟨f8,a3,ft,_,fT,_,c1,_,fz⟩:=d9 w' (bi I' C.B) U O (E id) t (λF a c=>by cases F;exact f.i a c;exact c.imp (f.i a) (λb=>b)) (by
   rintro a (⟨F,T⟩|c|⟨c2,go⟩)
   ·grind
   ·exact d3 a (.of_heap (R a c))
   grind) an (λ_ _=>rfl)
  (λa c2 fl=>by
   have c:a∈u:=ae;exact(d8 a c2 fl).1.sm (.of_heap (R a c))) cs
 obtain rfl:=fT bq (.inr bq);have Q:∀a∈a3,a∈E id\/a∈u:=λa c=>hl.1 (c1.mem_iff.1 c);have gl:∀l e,ax D l=Y e->∀a∈E l,a∉u:=λl e q a c gs=>by
  rcases((f.tree l e q).2.2.2 a c).2.2 with b|b
  ·grind
  grind
 have ad:∀l v,ax ((id,(⟨P.1,t⟩:aI))::D) l=Y v->(l=id/\v=⟨P.1,t⟩)\/(l≠id/\ax D l=Y v):=λl v q=>(by rw[eJ] at q;grind);have ci:∀a,(w.heap.size<=a\/∃d∈s,∃e,ax ((id,(⟨k,x⟩:aI))::del [id] st.h) d=Y e/\a∈lx fp id p d)->w.heap.size<=a\/∃d∈s,∃e,ax st.h d=Y e/\a∈fp d:=λa b=>b.imp (λb=>b) (λb=>by
  obtain⟨d,o,e,g,n,_⟩:=M a b;grind)
 refine⟨lx N id (rt id),lx E id a3,⟨f.size,f.os,f.tape,f.output,?_,f.evo,f.i,?_,?_,?_,?_,?_⟩,λl q=>lU q⟩
 ·intro a c gf;refine f.heap a c (λd o e g b=>?_);obtain⟨d,o,e,g,n,_⟩:=M a ⟨d,o,e,g,b⟩;grind
 ·intro a c;exact(f.i2 a c).imp (λb=>b) (λb=>⟨b.1,ci a b.2⟩)
 ·intro l v q;rcases ad l v q with⟨rfl,rfl⟩|⟨n,H⟩
  ·rw[oE,oE];refine⟨.inl bs,ft,?_,λa c=>?_⟩
   ·grind
   rcases Q a c with c|c
   ·obtain⟨d0,d1,d2⟩:=bj a c;grind
   have L:a∈fp l:=G.mem_iff.2 ae;refine⟨λo=>?_,jS (am a c).1 f.size,.inr ⟨l,bs,P,z,L⟩⟩;rcases f.i2 a o with b|⟨_,b|b⟩
   ·grind
   ·grind
   grind
  rw[lU n,lU n];obtain⟨f2,d0,d1,d2⟩:=f.tree l v H;refine⟨f2.imp (λb=>b) (λb=>?_),d0,d1,λa c=>?_⟩
  ·have b:ax ((id,(⟨k,x⟩:aI))::del [id] st.h) l=br:=b;rw[uv,aw (λm=>n m.symm)] at b;exact b
  obtain⟨v1,fy,ap⟩:=d2 a c;exact⟨v1,fy,ci a ap⟩
 ·intro d r f3 f4 o eq S a c;rcases ad d f3 o with⟨rfl,rfl⟩|⟨n,H⟩<;>rcases ad r f4 eq with⟨rfl,rfl⟩|⟨a4,bl⟩
  ·omega
  ·rw[oE] at c;rw[lU a4];rcases Q a c with c|c
   ·exact f.dis d r _ _ V bl S a c
   grind
  ·rw[lU n] at c;rw[oE];intro b;rcases Q a b with b|b
   ·exact f.dis d r _ _ H V S a c b
   grind
  rw[lU n] at c;rw[lU a4];exact f.dis d r _ _ H bl S a c
 ·intro m y e g;rcases fH.1 y with rfl|y
  ·rw[z] at g;cases g;exact⟨⟨P.1,t⟩,by rw[eJ,ay bq],bq,oE,⟨_,co.ty⟩,fz⟩
  by_cases ar:m.1=id
  ·rw[ar,z] at g;cases g;refine⟨⟨P.1,t⟩,by rw[eJ,ay ar.symm],bq,by grind [oE],⟨P.1,by rw[ex m y];cases P.1<;>rfl⟩,λdg _ _ _ q=>?_⟩;grind [FY]
  obtain⟨v1,fy,ap,v4,f5,MJ⟩:=f.keep m y e (by rw[uv,aw (λb=>ar b.symm)];omega);rw[lU ar] at v4 MJ;exact⟨v1,by rw[eJ,aw (λb=>ar b.symm)];exact fy,ap,by grind [lU],f5,MJ⟩
 intro m y e g dg hw hv hi f6 f9 bx fr fn ce fs;rcases fH.1 y with rfl|y
 ·rw[z] at g;cases g;refine⟨⟨P.1,t⟩,by rw[eJ,ay bq],v5 bx cs ce,λa0 el=>?_⟩;obtain⟨aB,an⟩:=ek dg _ _ _ _ _ bx (by exact fr) ce fn fs a0 el;rw[oE];exact⟨c1.mem_iff.2 (kB _ aB),.of_heap (R a0 aB)⟩
 grind [v2]
theorem fi.sub {v:bU} {t:bp ao} {i S:bW _} (dg:v.op=.call {callee:=.value n,args:=i,argTypes:=S}) (d7:aX st.g n=.eG m t) (ce:v.dst=Y a) (ci:C.ok a) (fr:∀(R:eB) (w:bF),(callFunc m R).run E.P w=.ok (.enter m R) w) {b:bp h1} {e:bp aI} (bs:s9 E m b e) (d2:qi 0 b=br) (am:∀F,C.I0 F\/C.B F->F<C.w0.heap.size/\¬C.F0 F) (an:lY E C.I0 C.w0) {id:X} {j:aI} (s:ax st.h id=Y j) {A:a6} {p:bp a6} {D:k.den} (O:e2 j.1 j.2 (A::p) k D) {J:amr} (d3:uR (i.toList.map (aX st.g)++t) J=Y (id,A::p)) {c:bp ao} (a4:c=ns id (i.toList.map (aX st.g)++t) J) (a3:pA ((id,⟨k,D⟩)::del [id] st.h) (gF c b) c b) (G:oh a ⟨[],(id,⟨k,D⟩)::del [id] st.h⟩ c b e=bt) (a0:id∈gF c b) (ap:id∈nk c b) {y':k.den} {z:j.1.den} (cs:ax (kM c b++jI a (jE e) 0 e) id=Y ⟨k,y'⟩) (d1:fq j.1 j.2 (A::p) k y' z) (r:u ⟨(a,wQ a e)::amO (gF c b) ((id,A::p)::yE (nk c b)) st.g,((id,⟨j.1,z⟩)::(kM c b++jI a (jE e) 0 e))++del (gF c b) st.h⟩):fi E C v st u:=by
 rintro d w ⟨I,rt,fp,l⟩ next em c2
 obtain⟨o,d6,ad⟩:∃o:eB,d.eval n=.func (.func m) #[] o/\i5 (c0 (bi I C.B) w st.h rt fp) t o.toList:=by
  have H:=l.aX n;rw[d7] at H;generalize fT:d.eval n=f5 at H;cases H with|eG ft fs=>
  grind [Aa]
 have bl:i5 (c0 (bi I C.B) w st.h rt fp) (i.toList.map (aX st.g)++t) (i.toList.map d.eval++o.toList):=H9 (Ia (λn=>l.aX n) _) ad;obtain⟨d9,ek,f1⟩:=l.tree id j s;obtain⟨el,eq,_,_,K,_⟩:=FH (A::p) (loc:=br) d9 (λ_ _ r=>by cases r) ek (λ_ _ r=>by cases r) (l.notM s) O;obtain⟨U,f2,aB,d8,dl⟩:=ob.aeI l s O K;have M:=l.split s aB d8;have N:=V2 (y:=D) (f:=U) l s K bl d3;rw[<-a4] at N;have bx:=M.call N bs a3 G (λ_ _=>by rw[d2];trivial) (M.glob am an);have d0:(bP d.eval v).run E.P w=.ok (.enter m (i.toList.map d.eval++o.toList).toArray) w:=(by have ar:i.map d.eval=(i.toList.map d.eval).toArray:=(by rw[<-Array.toList_map]);have T:(i.toList.map d.eval++o.toList).toArray=(i.toList.map d.eval).toArray++o:=ac;rw[T];simp only[bP,dg,anf,ar,b0,d6,Deferred.ofValue,cz,b4,invoke,Array.empty_append,Array.append_empty];grind);unfold amH;rw[d0];show Calls E.P m _ w _;refine bx.mono ?_;rintro q w' ⟨I',f3,ex,cF,rfl,d4,ds⟩;show next (d.put v.dst (rx cF)) w'
 rw[ce];obtain⟨f4,fl,d5,fz⟩:=dl d4 a0 cs (eT.2 ⟨id,ap,bq⟩) (λq co=>by obtain⟨f0,_,rfl⟩:=eT.1 co;rfl) d1;simp only[oh,cJ,hk] at G;have cv:=kh.ok G.1.2;refine c2 _ _ _ r bq ⟨I',_,_,(l.eK d5).put ci (av:=wQ a e) (ds _ _ _ (λx Q=>?_))⟩;have V:=Td cv x Q;have L:=G.2 x Q;have c1:x.1≠id:=λq=>(by rw[q,uv,ay bq] at L;cases L);have fn:ax ((id,(⟨j.1,z⟩:aI))::(kM c b++jI a (jE e) 0 e)) x.1=Y x.2:=(by rw[eJ,aw (λq=>c1 q.symm)];exact V);grind [lp,fC]
end
end
section
def ko:X->bp h1->bp (X×ao)
 |_,[]=>[]
 |k,.v b::a=>(k,.val b.1 b.2)::ko (k+1) a
 |k,.m _ _::a|k,.o _::a=>(k,.ref k [])::ko (k+1) a
 |k,.n::a=>(k,.eI (.slice br 0 0))::ko (k+1) a
 |k,.w _ _ e d _::a=>(k,.view k [] e d)::ko (k+1) a
 |k,.s _ _::a=>ko (k+1) a
 |k,.c f g::a=>(k,.eG f (g.map λb=>.val b.1 b.2))::ko (k+1) a
def kX:X->bp h1->bp (X×aI)
 |_,[]=>[]
 |k,.v _::a=>kX (k+1) a
 |k,.m b _::a|k,.o b::a=>(k,b)::kX (k+1) a
 |k,.w e d _ _ _::a=>(k,⟨.osl e,d⟩)::kX (k+1) a
 |k,.c _ _::a|k,.n::a|k,.s _ _::a=>kX (k+1) a
def h8:X->bp h1->amu
 |_,[]=>[]
 |k,.m _ _::a|k,.w _ _ _ _ _::a=>k::h8 (k+1) a
 |k,_::a=>h8 (k+1) a
def vq (a:fg):bv ec->Prop
 |none=>True
 |some (c,g,d)=>c∈a.pin/\(∀h∈d,h∈a.pin)/\∃b e f,a.vs c=.pointer (Y ⟨b,e,br⟩)/\b<a.w0.heap.size/\¬a.F0 b/\a.w0.cell? ⟨b,e,br⟩=Y (.func (.func g) #[] f)/\f.toList=d.map a.vs
def nU:bv ec->amu
 |none=>[]
 |some (a,_,b)=>a::b
def tn (j:b2) (e:aR) (a:aI):amB->amu->Prop
 |.tmp m,c=>match gt e.g m with
  |.val i n=>(⟨i,n⟩:aI)=a/\c=[]
  |.eI f=>jm a.1 f.cells.toList=Y a.2/\c9 a.1 f.cells.toList=f/\c=[]
  |.ref id d=>c=[id]/\∃b,ax e.h id=Y b/\e2 b.1 b.2 d a.1 a.2
  |_=>b7
 |.cell l k,c=>fD j a.1 k/\match gt e.g l with
  |.ref id d=>c=[id]/\∃b i,ax e.h id=Y b/\fE b.1 d=Y (.optr i)/\e2 b.1 b.2 (d++[.deref]) a.1 a.2
  |_=>b7
def vp (b:b2) (d:aR):bp amB->bp aI->amu->Prop
 |[],[],a=>a=[]
 |r::f,e::g,a=>e.1.gr=bt/\∃i1 c,a=i1++c/\tn b d e r i1/\vp b d f g c
 |_,_,_=>b7
def qG (a:aR):X->bp h1->Prop
 |_,[]=>True
 |k,.m c l::b=>(gt a.g k=.ref k []/\ax a.h k=Y ⟨c.1,l⟩/\c.1.gr=bt/\s5 c.1=bt)/\qG a (k+1) b
 |k,.w i j e d f::b=>(gt a.g k=.view k [] e d/\ax a.h k=Y ⟨.osl i,f⟩/\(i.gr=bt/\e<d)/\f.length=j.length)/\qG a (k+1) b
 |k,_::b=>qG a (k+1) b
def M4 (e:b2) (a:bp h1) (g:bp amB) (f:bp aI) (b:b8) (d:aR):Prop:=
 (b=.normal\/b=.ret)/\∃c,vp e d g f c/\kh (h8 0 a++c)=bt/\qG d 0 a
section
variable {E:fP}
theorem WW {h:X->Prop} {b:bp aI} (g:i5 (zA h O v) b U):c0 (bi h O) v e x y (.eG a (b.map λc=>.val c.1 c.2)) (.func (.func a) #[] U.toArray):=by
 have p:=Nx g;refine .eG ae (λf o j d i=>?_);have k:∀{b:bp aI} {U:amo} {f:X} {c:aI} {j:Value},i5 (zA h O v) b U->b[f]?=Y c->U[f]?=Y j->zA h O v c j:=by
  intro b
  induction b with
  |nil=>grind
  |cons r b n=>
   intro U f c j g d i;cases U with
   |nil=>grind
   |cons q U=>
    cases f with
    |zero=>simp only[rR,e9] at d i;subst d i;exact g.1
    |succ f=>exact n g.2 (by simpa using d) ae
 rw[jv] at d;obtain⟨c,m,rfl⟩:=fQ.1 d;obtain⟨cs,rfl,l⟩:=k g m (by simpa using i);exact .val l
theorem NO {q p:X->Prop} {w:bF}:∀{k:X} {d:bp h1} {C:amo} {u:ey},m9 (zx q p w) d C u->∃(h:X->amo) (e:X->amu),(∀id b,ax (kX k d) id=Y b->k<=id/\(∃t,u[id-k]?=Y t/\e id=t)/\aW (bi q p) w b.1 (h id) b.2 (e id))/\(∀a,gt (ko k d) (k+a)=.dead\/∃v,C[a]?=Y v/\c0 (bi q p) w (kX k d) h e (gt (ko k d) (k+a)) v)/\(∀a,a<k->gt (ko k d) a=.dead)
 |k,[],C,u,r=>⟨λ_=>[],λ_=>[],(λid b r=>by cases r),λa=>.inl bq,λa _=>rfl⟩
 |k,j::d,[],u,r|k,j::d,v::C,[],r=>r.elim
 |k,j::d,v::C,t::u,r=>by
  obtain⟨z,S⟩:=r;obtain⟨h,e,i1,G,P⟩:=NO (k:=k+1) S;have H:∀id b,ax (kX (k+1) d) id=Y b->k<=id/\(∃D,(t::u)[id-k]?=Y D/\e id=D)/\aW (bi q p) w b.1 (h id) b.2 (e id):=λid b O=>ae;have L:∀(b:aI) (cs:amo) (I:ao),(∀(y:bp (X×aI)) (B:X->amo) (E:X->amu),ax y k=Y b->B k=cs->c0 (bi q p) w y B E I v)->aW (bi q p) w b.1 cs b.2 t->kX k (j::d)=(k,b)::kX (k+1) d->ko k (j::d)=(k,I)::ko (k+1) d->_:=λb cs I f l ar N=>by
   refine(⟨λF=>if F=k then cs else h F,λF=>if F=k then t else e F,?_,?_,?_⟩:∃(h:X->amo) (e:X->amu),(∀id b,ax (kX k (j::d)) id=Y b->k<=id/\(∃D,(t::u)[id-k]?=Y D/\e id=D)/\aW (bi q p) w b.1 (h id) b.2 (e id))/\(∀a,gt (ko k (j::d)) (k+a)=.dead\/∃i,(v::C)[a]?=Y i/\c0 (bi q p) w (kX k (j::d)) h e (gt (ko k (j::d)) (k+a)) i)/\(∀a,a<k->gt (ko k (j::d)) a=.dead))
   ·grind [eJ]
   ·intro a;rw[N,jC];cases a with
    |zero=>
     right;refine⟨v,bq,?_⟩;rw[ay aa];exact f _ _ _ (by rw[ar,eJ,ay bq]) ae
    |succ a=>
     rw[aw aa,(aa:k+(a+1)=k+1+a)];refine(G a).imp id ?_;rintro⟨i,aB,g⟩;refine⟨i,ae,?_⟩;refine g.uB (λm J T=>⟨T,cu w J⟩) (λid _ ad O=>?_);obtain⟨a4,_,bl⟩:=i1 id ad O;have am:¬id=k:=aa;have an:¬k=id:=aa;simp_all [eJ,aw,cu]
   intro a x;rw[N,jC,aw aa];grind
  cases j with
  |v b=>
   obtain⟨rfl,cs,f,l⟩:=z;refine⟨h,e,H,λa=>?_,λa x=>?_⟩
   ·show gt ((k,_)::_) _=_\/_;rw[jC];cases a with
    |zero=>
     right;refine⟨v,bq,?_⟩;show c0 _ _ _ _ _ (gt ((k,_)::_) _) _;rw[jC,ay aa,f];exact .val l
    |succ a=>
     rw[aw aa,(aa:k+(a+1)=k+1+a)];refine(G a).imp id ?_;rintro⟨i,aB,g⟩;refine⟨i,ae,?_⟩;show c0 _ _ _ _ _ (gt ((k,_)::_) _) _;rw[jC,aw aa];exact g
   show gt ((k,_)::_) _=_;rw[jC,aw aa];grind
  |n=>
   obtain⟨rfl,f⟩:=z;refine⟨h,e,H,λa=>?_,λa x=>?_⟩
   ·show gt ((k,_)::_) _=_\/_;rw[jC];cases a with
    |zero=>
     right;refine⟨v,bq,?_⟩;show c0 _ _ _ _ _ (gt ((k,_)::_) _) _;rw[jC,ay aa,f];exact .eI _
    |succ a=>
     rw[aw aa,(aa:k+(a+1)=k+1+a)];refine(G a).imp id ?_;rintro⟨i,aB,g⟩;refine⟨i,ae,?_⟩;show c0 _ _ _ _ _ (gt ((k,_)::_) _) _;rw[jC,aw aa];exact g
   show gt ((k,_)::_) _=_;rw[jC,aw aa];grind
  |s ap a0=>
   refine⟨h,e,H,λa=>?_,λa x=>P a aa⟩;cases a with
   |zero=>exact .inl (P k aa)
   |succ a=>
    have x:=G a;rw[(aa:k+1+a=k+(a+1))] at x;refine x.imp id ?_;rintro⟨i,aB,g⟩;exact⟨i,ae,g⟩
  |c n bs=>
   obtain⟨rfl,bx,f,l⟩:=z;refine⟨h,e,H,λa=>?_,λa x=>?_⟩
   ·show gt ((k,_)::_) _=_\/_;rw[jC];cases a with
    |zero=>
     right;refine⟨v,bq,?_⟩;show c0 _ _ _ _ _ (gt ((k,_)::_) _) _;rw[jC,ay aa,f];exact WW l
    |succ a=>
     rw[aw aa,(aa:k+(a+1)=k+1+a)];refine(G a).imp id ?_;rintro⟨i,aB,g⟩;refine⟨i,ae,?_⟩;show c0 _ _ _ _ _ (gt ((k,_)::_) _) _;rw[jC,aw aa];exact g
   show gt ((k,_)::_) _=_;rw[jC,aw aa];grind
  |m b ce=>obtain⟨cs,f,l⟩:=z;exact L b cs (.ref k []) (λy B E aB g=>by subst f;exact .ref (loc:=br) aB (by grind [aoa])) l bq rfl
  |o b=>obtain⟨cs,f,l⟩:=z;exact L b cs (.ref k []) (λy B E aB g=>by subst f;exact .ref (loc:=br) aB (by grind [aoa])) l bq rfl
  |w R Q A K ci=>
   obtain⟨J,o,M,f,⟨a3,U,V⟩,l⟩:=z;refine L ⟨.osl R,Q⟩ _ (.view k [] A K) (λy B E aB g=>?_) l bq rfl;have av:c0 (bi q p) w y B E (.view k [] A K) (.slice (Y ⟨J,if M=A then o else o+A*R.size,br⟩) (K-A) (M-A)):=.view (loc:=br) (len:=Q.length) aB (by grind [aoa]) aa U V;grind
theorem aba {a:ey} (g:a.flatten.Nodup):(∀(c:X) b,a[c]?=Y b->b.Nodup)/\∀(c e:X) b d,a[c]?=Y b->a[e]?=Y d->c≠e->∀f∈b,f∉d:=by
 induction a with
 |nil=>grind
 |cons i a h=>
  simp only[my,jR] at g;grind [List.getElem?_cons_zero,anV,an3,aot]
def Ci (b:eB):amB->Sem Value
 |.tmp a=>anQ (b.getD a bY)
 |.cell c a=>do loadVar a (<-asAddr (b.getD c bY))
def agO {f:Func} {e:bp amB} (h:f.results=e.toArray) (c:eB) (a:bF) (i:(e.mapM (Ci c)).run p a=.ok U a):(results f c).run p a=.ok (rx U) a:=by
 unfold results;simp only[b0,h];rw[apQ,Sem.run_map];have j:∀b:amB->Sem Value,(∀d,b d=Ci c d)->(e.mapM b).run p a=.ok U a:=λb g=>(by rw[show b=Ci c from funext g];exact i);rw[j _ (λd=>by cases d<;>rfl)];simp only[b4,cz];congr 1
 match U with
 |[]|[r]=>rfl
 |r::l::k=>simp[rx]
theorem tn.rep {H:fg} {d:eB} {C:X->amu} (q:cW H i d v O x C) (D:P.1.gr=bt) {c:amB} (a:tn p i P c f):∃o I,(Ci d c).run p v=.ok o v/\C7 O v P o I/\(∃ap,(f.map C).flatten.Perm (I++ap))/\∀id∈f,∃P,ax i.h id=Y P:=by
 have K:∀(id:X) (g:aI) (l:bp a6),ax i.h id=Y g->e2 g.1 g.2 l P.1 P.2->∃u m k n,aZ v g.1 br (x id) l P.1 u m/\aW (bi O H.B) v P.1 m P.2 k/\qF v u m P.1.size/\(C id).Perm (k++n):=(by intro id g l e r;obtain⟨aB,G,bl⟩:=q.tree id _ e;obtain⟨u,m,k,n,w,z,F,J,_⟩:=FH l (τ':=P.1) (y:=P.2) aB (loc:=br) (λ_ _ a=>by cases a) G (λ_ _ a=>by cases a) (q.notM e) r;grind);cases c with
 |tmp c=>
  have b:=q.tmp c;simp only[tn] at a;split at a
  ·rename_i a0 bx j;rw[j] at b;obtain⟨rfl,rfl⟩:=a;generalize E:d.getD c bY=o at b;cases b with|val av=>
   exact⟨_,[],by show(anQ (d.getD c bY):Sem Value).run p v=_;simp_all,⟨_,bq,av.gr D⟩,⟨[],ac⟩,ac⟩
  ·rename_i o j;rw[j] at b;obtain⟨aB,G,rfl⟩:=a;generalize E:d.getD c bY=bs at b;cases b;exact⟨_,[],by show(anQ (d.getD c bY):Sem Value).run p v=_;simp_all,⟨_,G.symm,qX aB⟩,⟨[],ac⟩,ac⟩
  ·rename_i id l j;rw[j] at b;obtain⟨rfl,g,e,r⟩:=a;generalize E:d.getD c bY=o at b;cases b with|ref t s=>
   rw[e] at t;cases t;obtain⟨u,m,k,n,w,z,F,J⟩:=K id g l e r;obtain⟨rfl,rfl,rfl⟩:=s.lj w;refine⟨_,k,by show(anQ (d.getD c bY):Sem Value).run p v=_;simp_all,⟨_,bq,z.gr D⟩,⟨n,ae⟩,λam U=>?_⟩;grind
  grind
 |cell A L=>
  have b:=q.tmp A;simp only[tn] at a;obtain⟨a3,a⟩:=a;split at a
  ·rename_i id l j;rw[j] at b;obtain⟨rfl,g,a0,e,ad,r⟩:=a;generalize E:d.getD A bY=o at b;cases b with|ref t s=>
   rw[e] at t;cases t;have:=s.ty;rw[ad] at this;cases this;obtain⟨M,an,R,rfl,N,Q⟩:=qb (q.tree id _ e).1 s;have V:=s.append (aZ.Jq N Q);obtain⟨u,m,k,n,w,z,F,J⟩:=K id g _ e r;obtain⟨ar,S,T⟩:=V.lj w;subst S;subst T;subst ar;have a4:=(F M an bq).1;refine⟨c9 P.1 R,k,?_,⟨_,bq,z.gr D⟩,⟨n,ae⟩,λam U=>?_⟩
   ·show(do loadVar L (<-asAddr (d.getD A bY)):Sem Value).run p v=_;grind [Mc,b0,cz,b4,c9,List.headD,asAddr]
   grind
  grind
theorem vp.rep {j:b2} {o:fg} {f:aR} {n:eB} {e w0:bF} {i:X->Prop} {z:X->amo} {k:X->amu} (l:cW o f n e i z k):∀{d:bp amB} {m:bp aI} {a:amu},vp j f d m a->∃vs c,(d.mapM (Ci n)).run j e=.ok vs e/\m9 (C7 i e) m vs c/\(∃w,(a.map k).flatten.Perm (c.flatten++w))/\∀id∈a,∃g,ax f.h id=Y g
 |[],[],a,b=>by obtain rfl:a=[]:=b;exact⟨[],[],bq,trivial,⟨[],.refl _⟩,ac⟩
 |[],g::A,a,b|r::d,[],a,b=>b.elim
 |r::d,g::A,a,b=>by
  obtain⟨v,i1,K,rfl,t,u⟩:=b;obtain⟨B,s,C,p,⟨x,D⟩,E⟩:=t.rep l v;obtain⟨vs,c,F,q,⟨y,G⟩,H⟩:=vp.rep (w0:=w0) l u;refine⟨B::vs,s::c,?_,⟨p,q⟩,⟨x++y,?_⟩,λJ I=>?_⟩
  ·simp_all
  ·grind
  grind
theorem NP:∀{k:X} {args:bp h1},∀b∈h8 k args,k<=b
 |k,[],b,a=>by cases a
 |k,f::args,b,a=>by
  have d:=NP (k:=k+1) (args:=args);cases f with
  |m e q=>
   rcases fH.1 a with rfl|a
   ·omega
   grind
  |w t p j h r=>
   rcases fH.1 a with rfl|a
   ·omega
   grind
  |v e|o e|c n l|n|s g i=>have:=d b a;omega
theorem qG.rep {Q:fg} {A:aR} {E:eB} {w:bF} {F:X->Prop} {L:X->amo} {t:X->amu} (u:cW Q A E w F L t) {B:X->Prop}:∀{k:X} {f:bp h1} {vs:amo},qG A k f->vs.length=f.length->(∀e,e∈h8 k f->∀v,vs[e-k]?=Y v->E.getD e bY=v)->∃b,m9 (zy F B w) f vs b/\b.flatten=((h8 k f).map t).flatten/\∀id∈h8 k f,k<=id/\∃r,ax A.h id=Y r
 |k,[],vs,g,C,x=>by cases vs with
  |nil=>exact⟨[],trivial,bq,by simp[h8]⟩
  |cons=>cases C
 |k,G::f,[],g,C,x=>by cases C
 |k,G::f,v::vs,g,C,x=>by
  have p:qG A (k+1) f->(∀e,e∈h8 (k+1) f->e∈h8 k (G::f))->∃b,m9 (zy F B w) f vs b/\b.flatten=((h8 (k+1) f).map t).flatten/\∀id∈h8 (k+1) f,k+1<=id/\∃r,ax A.h id=Y r:=λg T=>by
   have a3:=NP (k:=k+1) (args:=f);exact qG.rep u g ae (λe i ad bl=>x e (T e i) ad (by
    grind))
  cases G with
  |v r=>
   obtain⟨b,j,q,d⟩:=p g (λe i=>i);exact⟨[]::b,⟨bq,j⟩,by grind [h8],λid a=>⟨by have:=(d id a).1;omega,(d id a).2⟩⟩
  |o r=>
   obtain⟨b,j,q,d⟩:=p g (λe i=>i);exact⟨[]::b,⟨bq,j⟩,by grind [h8],λid a=>⟨by have:=(d id a).1;omega,(d id a).2⟩⟩
  |n=>
   obtain⟨b,j,q,d⟩:=p g (λe i=>i);exact⟨[]::b,⟨bq,j⟩,by grind [h8],λid a=>⟨by have:=(d id a).1;omega,(d id a).2⟩⟩
  |s a0 bx=>
   obtain⟨b,j,q,d⟩:=p g (λe i=>i);exact⟨[]::b,⟨bq,j⟩,by grind [h8],λid a=>⟨by have:=(d id a).1;omega,(d id a).2⟩⟩
  |c n c2=>
   obtain⟨b,j,q,d⟩:=p g (λe i=>i);exact⟨[]::b,⟨bq,j⟩,by grind [h8],λid a=>⟨by have:=(d id a).1;omega,(d id a).2⟩⟩
  |m r dl=>
   obtain⟨⟨J,z,K,U⟩,g⟩:=g;obtain⟨b,j,q,d⟩:=p g (λe i=>gH _ i);have l:=u.tmp k;rw[J] at l;have I:E.getD k bY=v:=x k (by simp[h8]) v ac;rw[I] at l;obtain⟨D,_⟩:=u.tree k _ z;refine⟨t k::b,⟨?_,j⟩,by grind [anU,h8],λid a=>?_⟩
   ·cases l with|ref y H=>
    rw[z] at y;cases y;obtain⟨rfl,rfl,rfl⟩:=amY.1 H;exact⟨L k,bq,D.gr K⟩
   rcases fH.1 a with rfl|a
   ·grind
   grind
  |w am dg ce a4 ds=>
   obtain⟨⟨J,z,⟨K,U⟩,bs⟩,g⟩:=g;obtain⟨b,j,q,d⟩:=p g (λe i=>gH _ i);have l:=u.tmp k;rw[J] at l;have I:E.getD k bY=v:=x k (by simp[h8]) v ac;rw[I] at l;obtain⟨D,_⟩:=u.tree k _ z;refine⟨t k::b,⟨?_,j⟩,by grind [anU,h8],λid a=>?_⟩
   ·cases l with
    |mZ=>omega
    |view y H aB co cs=>
    rename_i c1 d0 ci M P V N;rw[z] at y;cases y;obtain⟨ar,av,R⟩:=amY.1 H;simp only[ak.osl.injEq] at ar;subst ar;have O:L k=[.slice (Y ⟨M,P,br⟩) V N]:=R;have S:=D;obtain⟨an,ap,bj,cv⟩:=S;rw[bj] at O;simp only[ij,amE,cf] at O;refine⟨M,P,N,by rw[aw aa],aa,?_⟩;have:=aW.gr (τ:=.osl am) (B':=B) K D;grind
   rcases fH.1 a with rfl|a
   ·grind
   grind
theorem s9.abv {q:FuncId} {j:Func} {c:cx} {b:bp h1} {a0:bp amB} {C:bp aI} (dg:E.P.funcs[q]?=Y j) (f:j.body=Y c) (d1:j.results=a0.toArray) (fn:b.length<=j.ntmps) (g:∀d:fg,d.n=j.ntmps->d.pin=h8 0 b++nU (qi 0 b)->(∀a,d.I0 a\/d.B a->a<d.w0.heap.size/\¬d.F0 a)->vq d (qi 0 b)->lY E d.I0 d.w0->J E d c ⟨ko 0 b,kX 0 b⟩ (M4 E.P b a0 C)):s9 E q b C:=by
 intro r s y l K R N ds O U dl;obtain⟨d4,fl⟩:=Ib N;obtain⟨a3,H,bs,bx,em⟩:=NO (k:=0) N
 let d:fg:={I0:=s,B:=y,F0:=λa=>a∈K.flatten,w0:=r,n:=j.ntmps,pin:=h8 0 b++nU (qi 0 b),vs:=λi=>l.getD i bY}
 have ad:∀i,(l.toArray++ap1 (j.ntmps-l.toArray.size) bY).getD i bY=l.getD i undef:=(by intro i;rw[apZ,ji];grind);obtain⟨fr,fs⟩:=aba ds;have co:cW d ⟨ko 0 b,kX 0 b⟩ (l.toArray++ap1 (j.ntmps-l.toArray.size) bY) r s a3 H:=by
  refine{n:=?_,i0:=λ_ g=>g,i1:=λ_ g=>.inl g,ib:=R,tree:=?_,dis:=?_,tmp:=?_,frame:=λ_ _ _=>rfl,evo:=λ_ _=>.refl _ _,size:=bf _,os:=rfl,tape:=rfl,output:=rfl,pin:=λi _=>ad i}
  ·grind
  ·intro id m v;obtain⟨_,⟨q,aB,d7⟩,d8⟩:=bs id m v;rw[aob] at aB;grind [an3,aot]
  ·grind
  intro i;show c0 _ _ _ _ _ (gt (ko 0 b) i) _;rw[ad];rcases bx i with g|⟨w,M,ci⟩
  ·rw[l3] at g;rw[g];exact .dead _
  grind
 have d2:vq d (qi 0 b):=by
  cases o:qi 0 b with
  |none=>trivial
  |some d6=>
   obtain⟨i,q,ap⟩:=d6;rw[o] at U;obtain⟨_,_,a,d5,el,D,F,a4,cS,ek⟩:=U;have fp:d.pin=h8 0 b++nU (Y (i,q,ap)):=ae;refine⟨by grind [nU],λan T=>by grind [nU],a,d5,el,D,F,a4,cS,ek⟩
 refine calls_of_wp dg f (wp_mono (g d bq rfl (λa f=>⟨R a f,λt=>f.elim (O a t).1 (O a t).2.1⟩) d2 dl _ r ⟨s,a3,H,co⟩ rfl) ?_);rintro eq G x ⟨bl,⟨c2,am,d0,A,t⟩,⟨z,fz,I,e⟩,Q⟩;obtain⟨fT,o,d9,D,⟨ft,F⟩,a4⟩:=vp.rep (w0:=r) e d0;obtain⟨p,ce,L,ex⟩:=qG.rep e (B:=y) (vs:=l) t d4 (λan T w d3=>by
  rw[aob] at d3;rw[e.pin an (oW _ T)];grind)
 have A:=kh.ok A;have V:∀id∈h8 0 b++am,∃m,ax bl.h id=Y m:=λid S=>ae;have u:=Ld e V A;rw[kA,zL,<-L] at u;have u:(p.flatten++o.flatten).Nodup:=(by have:=(apg p.flatten F).nodup_iff.1 u;grind);have cs:∀a∈p.flatten++o.flatten,∃id m,ax bl.h id=Y m/\a∈I id:=λa f=>(by have f:a∈((h8 0 b++am).map I).flatten:=(by rw[kA,zL,<-L];grind);obtain⟨ap,M,ci⟩:=mB.1 f;obtain⟨id,S,rfl⟩:=eT.1 M;obtain⟨m,v⟩:=V id S;grind);have av:∃w,(results j G.tmps).run E.P x=.ok w x/\∃z p o cF,Ending.returned w=.returned (rx cF)/\Nh s y r K b l C z p o cF x:=
  ⟨_,agO d1 G.tmps x d9,z,p,o,_,bq,ce,D,u,(λa f=>by
   obtain⟨id,m,v,cv⟩:=cs a f;obtain⟨aB,d7,d8,bj⟩:=(e.tree id m v).2.2 a cv;grind),e.i0,(λa f=>by
   rcases e.i1 a f with g|g|g
   ·grind
   ·exact .inr ⟨e.ib a (.inl f),.inl g⟩
   exact .inr ⟨e.ib a (.inl f),.inr g⟩),e.size,e.os,e.tape,e.output,e.evo,λa f c1=>e.frame a f c1⟩
 rcases c2 with rfl|rfl
 ·exact⟨Q,av⟩
 exact⟨Q,av⟩
end
end
section
open Classical in
def pick {a:Type} (c:a->Prop):bv a:=if h:∃b,c b then Y h.choose else br
theorem aeD {d:b->Prop} {c:b} (a:pick d=Y c):d c:=by
 unfold pick at a;split at a
 ·grind
 grind
inductive pK where
 |v (τ:ak)
 |s (a:ao)
 |p (id:X) (a b:bp a6)
 |w (id:X)
structure n9 where
 g:bp (X×pK)
 h:bp (X×ak)
@[reducible] def rA:bp (X×pK)->Type->Type
 |[],r=>r
 |(_,.v a)::l,r=>a.den×rA l r
 |(_,.s _)::l,r=>rA l r
 |(_,.p _ _ _)::l,r=>X×rA l r
 |(_,.w _)::l,r=>es×rA l r
@[reducible] def wV:bp (X×ak)->Type
 |[]=>bz
 |(_,a)::l=>a.den×wV l
@[reducible] def n9.den (a:n9):Type:=rA a.g (wV a.h)
def pe {e:Type}:(c:bp (X×pK))->rA c e->bp (X×ao)
 |[],_=>[]
 |(d,.v f)::c,s=>(d,.val f s.1)::pe c s.2
 |(d,.s a)::c,s=>(d,a)::pe c s
 |(d,.p id a b)::c,s=>(d,.ref id (a++.idx s.1::b))::pe c s.2
 |(d,.w id)::c,s=>(d,.view id [] s.1.1 s.1.2)::pe c s.2
def wa {b:Type}:(a:bp (X×pK))->rA a b->b
 |[],s=>s
 |(_,.v _)::a,s=>wa a s.2
 |(_,.s _)::a,s=>wa a s
 |(_,.p _ _ _)::a,s|(_,.w _)::a,s=>wa a s.2
def v8:(a:bp (X×ak))->wV a->bp (X×aI)
 |[],_=>[]
 |(d,b)::a,s=>(d,⟨b,s.1⟩)::v8 a s.2
def lI (a:n9) (b:a.den):aR:=⟨pe a.g b,v8 a.h (wa a.g b)⟩
def il {τ:ak} (a:ak) (b:τ.den):bv a.den:=if e:τ=a then Y (e▸b) else br
theorem kY {a:Q.den} {b:k.den} (c:il k a=Y b):(⟨Q,a⟩:aI)=⟨k,b⟩:=by grind [il]
def w1:a6->a6->bD
 |.idx a,.idx b=>bL a b
 |.deref,.deref|.unst,.unst|.fst,.fst|.snd,.snd=>bt
 |_,_=>bu
theorem w1.ok {a b:a6} (c:w1 a b=bt):a=b:=by cases a<;>cases b<;>first|rfl|(cases c;done)|(rw[fJ c])
def mP:bp a6->bp a6->bD
 |[],[]=>bt
 |a::c,b::d=>w1 a b&&mP c d
 |_,_=>bu
theorem mP.ok:∀{c d:bp a6},mP c d=bt->c=d
 |[],[],_=>rfl
 |[],_::_,b|_::_,[],b=>by cases b
 |a::c,e::d,b=>by simp only[mP,cJ] at b;rw[w1.ok b.1,mP.ok b.2]
def vw:ao->ao->bD
 |.ref a c,.ref b d|.addr a c,.addr b d=>bL a b&&mP c d
 |_,_=>bu
theorem vw.ok {a b:ao} (c:vw a b=bt):a=b:=by cases a<;>cases b<;>first|(cases c;done)|(simp only[vw,cJ] at c;grind [anl,mP.ok])
def vx:bp ao->bp ao->bD
 |[],[]=>bt
 |a::c,b::d=>vw a b&&vx c d
 |_,_=>bu
theorem vx.ok:∀{c d:bp ao},vx c d=bt->c=d
 |[],[],_=>rfl
 |[],_::_,b|_::_,[],b=>by cases b
 |a::c,e::d,b=>by simp only[vx,cJ] at b;rw[vw.ok b.1,vx.ok b.2]
def tA:ao->ao->bD
 |.eG c e,.eG d f=>bL c d&&vx e f
 |a,b=>vw a b
theorem tA.ok {a b:ao} (c:tA a b=bt):a=b:=by cases a<;>cases b<;>first|exact vw.ok c|(simp only[tA,cJ] at c;grind [anl,vx.ok])
def Cz:bp a6->bp a6->bp a6->amq
 |[],a,.idx k::b=>bif mP a b then Y k else br
 |s::c,a,d::b=>bif w1 s d then Cz c a b else br
 |_,_,_=>br
theorem T1:∀{d b e:bp a6} {c:X},Cz d b e=Y c->e=d++.idx c::b
 |[],b,[],c,a=>by cases a
 |[],b,s::e,c,a=>by
  cases s<;>simp only[Cz] at a<;>try (cases a;done)
  grind [mP.ok]
 |s::d,b,[],c,a=>by cases a
 |s::d,b,g::e,c,a=>by
  simp only[Cz] at a;cases f:w1 s g with
  |false=>grind
  |true=>rw[f] at a;rw[w1.ok f,T1 a];rfl
def rv {f:Type} (e:bp (X×ao)) (g:bv f):(c:bp (X×pK))->bv (rA c f)
 |[]=>g
 |(d,.v o)::c=>match gt e d with
  |.val _ m=>match il o m with
   |some n=>(rv e g c).map (λi=>(n,i))
   |none=>br
  |_=>br
 |(d,.s a)::c=>match tA a (gt e d) with
  |true=>rv e g c
  |false=>br
 |(d,.p id a b)::c=>match gt e d with
  |.ref h i=>bif bL id h then match Cz a b i with
   |some k=>(rv e g c).map (λf=>(k,f))
   |none=>br else br
  |_=>br
 |(d,.w id)::c=>match gt e d with
  |.view h [] l j=>bif bL id h then(rv e g c).map (λf=>((l,j),f)) else br
  |_=>br
def GI (b:bp (X×aI)):(a:bp (X×ak))->bv (wV a)
 |[]=>Y ()
 |(d,g)::a=>match ax b d with
  |some e=>match il g e.2 with
   |some f=>(GI b a).map (λc=>(f,c))
   |none=>br
  |none=>br
def yy:bp (X×ak)->X->bD
 |[],_=>bu
 |(k,_)::r,n=>bif bL k n then bt else yy r n
def rC:bp (X×pK)->bp (X×ak)->bD
 |[],_=>bt
 |(_,.v _)::l,h=>rC l h
 |(_,.s a)::l,h=>(a.ids.all λid=>yy h id)&&rC l h
 |(_,.p id _ _)::l,h|(_,.w id)::l,h=>yy h id&&rC l h
def proj (a:n9) (b:aR):bv a.den:=bif rC a.g a.h then rv b.g (GI b.h a.h) a.g else br
theorem Ft:∀{b:bp (X×ak)} {c:wV b} {id:X},yy b id=bt->(ax (v8 b c) id).isSome=bt
 |[],_,_,a=>by cases a
 |(k,e)::b,c,id,a=>by
  simp only[yy] at a;simp only[v8,ax];cases d:bL k id with
  |true=>rfl
  |false=>rw[d] at a;exact Ft ae
theorem Cc {o:Type} {q:aR} {n:bv o}:∀{e:bp (X×pK)} {f:rA e o},rv q.g n e=Y f->pX (pe e f) q/\n=Y (wa e f)
 |[],f,c=>⟨trivial,c⟩
 |(d,.v F)::e,f,c=>by
  simp only[rv] at c;split at c
  case h_2=>cases c
  rename_i G D t;split at c
  case h_2=>cases c
  rename_i E u;obtain⟨x,k,rfl⟩:=fQ.1 c;obtain⟨h,i⟩:=Cc k;refine⟨⟨?_,h⟩,i⟩;rw[t];cases kY u;rfl
 |(d,.s a)::e,f,c=>by
  simp only[rv] at c;split at c
  case h_2=>cases c
  rename_i r;obtain⟨h,i⟩:=Cc c;exact⟨⟨(tA.ok r).symm,h⟩,i⟩
 |(d,.p id a b)::e,f,c=>by
  simp only[rv] at c;split at c
  case h_2=>cases c
  rename_i m x k;cases j:bL id m with
  |false=>grind
  |true=>
  rw[j] at c;simp only[bI] at c;split at c
  case h_2=>cases c
  rename_i B A;obtain⟨y,l,rfl⟩:=fQ.1 c;obtain⟨h,i⟩:=Cc l;refine⟨⟨?_,h⟩,i⟩;grind [T1,anl]
 |(d,.w id)::e,f,c=>by
  simp only[rv] at c;split at c
  case h_2=>cases c
  rename_i m C z k;cases j:bL id m with
  |false=>grind
  |true=>
  rw[j] at c;simp only[bI] at c;obtain⟨y,l,rfl⟩:=fQ.1 c;obtain⟨h,i⟩:=Cc l;refine⟨⟨?_,h⟩,i⟩;simp_all
theorem SJ {e:aR}:∀{b:bp (X×ak)} {c:wV b},GI e.h b=Y c->pY (v8 b c) e
 |[],c,a=>trivial
 |(d,m)::b,c,a=>by
  simp only[GI] at a;split at a
  case h_2=>cases a
  rename_i k g;split at a
  case h_2=>cases a
  rename_i l i;obtain⟨j,f,rfl⟩:=fQ.1 a;refine⟨?_,SJ f⟩;grind [kY]
theorem Cw {r:Type} {c:bp (X×ak)} {t:wV c}:∀{l:bp (X×pK)} {s:rA l r},rC l c=bt->ni (pe l s) (v8 c t)=bt
 |[],s,h=>rfl
 |(d,.v e)::l,s,h=>by have:=Cw (r:=r) (t:=t) (l:=l) (s:=s.2) h;simp only[ni,pe,tc,bV,ap2,aoE] at this|-;omega
 |(d,.s a)::l,s,h=>by simp only[rC,cJ] at h;have:=Cw (r:=r) (t:=t) (l:=l) (s:=s) h.2;simp only[ni,pe,tc,cJ] at this|-;grind [Ft,anK]
 |(_,.p id a b)::l,s,h=>by simp only[rC,cJ] at h;have:=Cw (r:=r) (t:=t) (l:=l) (s:=s.2) h.2;simp only[ni,pe,tc,cJ] at this|-;refine⟨?_,this⟩;simp_all [Ft,tc,ap2,aoF,bV]
 |(_,.w id)::l,s,h=>by simp only[rC,cJ] at h;have:=Cw (r:=r) (t:=t) (l:=l) (s:=s.2) h.2;simp only[ni,pe,tc,cJ] at this|-;refine⟨?_,this⟩;simp_all [Ft,tc,ap2,aoF,bV]
theorem uN {a:n9} {b:a.den} (c:proj a i=Y b):pX (lI a b).g i/\pY (lI a b).h i/\ni (lI a b).g (lI a b).h=bt:=by
 unfold proj at c;cases d:rC a.g a.h with
 |false=>grind
 |true=>
  rw[d] at c;obtain⟨e,f⟩:=Cc c;exact⟨e,SJ f,Cw d⟩
inductive hB where
 |v (τ:ak)
 |m (τ:ak)
 |o (τ:ak)
 |c (f:X) (τs:bp ak)
 |n
 |s (f:X) (l:amu)
 |w (σ:ak)
@[reducible] def lR:bp ak->Type
 |[]=>bz
 |τ::a=>τ.den×lR a
@[reducible] def hJ:bp hB->Type
 |[]=>bz
 |.c _ e::a=>lR e×hJ a
 |.n::a|.s _ _::a=>bz×hJ a
 |.v b::a|.m b::a|.o b::a=>b.den×hJ a
 |.w d::a=>(bp d.den×X×X)×hJ a
@[reducible] def jd:bp hB->Type->Type
 |[],a=>a
 |.m e::b,a=>e.den×jd b a
 |.w d::b,a=>bp d.den×jd b a
 |.v _::b,a|.o _::b,a|.c _ _::b,a|.n::b,a|.s _ _::b,a=>jd b a
structure jO where
 f:X
 ps:bp hB
 rs:bp ak
 sem:hJ ps->bv (jd ps (lR rs))
def jG:(c:bp ak)->lR c->bp aI
 |[],_=>[]
 |τ::b,a=>⟨τ,a.1⟩::jG b a.2
def gX {j:Type}:(f:bp hB)->hJ f->jd f j->bp h1
 |[],_,_=>[]
 |.v e::d,a,b=>.v ⟨e,a.1⟩::gX d a.2 b
 |.m e::d,a,b=>.m ⟨e,a.1⟩ b.1::gX d a.2 b.2
 |.o e::d,a,b=>.o ⟨e,a.1⟩::gX d a.2 b
 |.c h l::d,a,b=>.c h (jG l a.1)::gX d a.2 b
 |.n::d,a,b=>.n::gX d a.2 b
 |.w k::d,a,b=>.w k a.1.1 a.1.2.1 a.1.2.2 b.1::gX d a.2 b.2
 |.s g i::d,a,b=>.s g i::gX d a.2 b
def iR {d:Type}:(e:bp hB)->jd e d->d
 |[],a=>a
 |.m _::b,a|.w _::b,a=>iR b a.2
 |.v _::b,a|.o _::b,a|.c _ _::b,a|.n::b,a|.s _ _::b,a=>iR b a
def jJ:X->bp hB->bv ec
 |_,[]=>br
 |k,.s a b::_=>Y (k,a,b)
 |k,_::c=>jJ (k+1) c
theorem Cq {r:Type}:∀{k:X} {ps:bp hB} {a:hJ ps} {b:jd ps r},qi k (gX ps a b)=jJ k ps
 |k,[],a,b=>rfl
 |k,e::d,a,b=>by have c:=λa b=>Cq (r:=r) (k:=k+1) (ps:=d) (a:=a) (b:=b);cases e<;>first|exact c _ _|rfl
def aH (E:fP) (a:jO):Prop:=
 (∀(d:eB) (e:bF),(callFunc a.f d).run E.P e=.ok (.enter a.f d) e)/\∀c b,a.sem c=Y b->s9 E a.f (gX a.ps c b) (jG a.rs (iR a.ps b))
def ip:(j:ak)->j.den->bp a6->(a:ak)->bv a.den
 |_,c,[],a=>il a c
 |.osl d,i,.idx h::b,a=>match i[h]? with
  |some g=>ip d g b a
  |none=>br
 |.optr d,c,.deref::b,a|.st d,c,.unst::b,a=>ip d c b a
 |.pr e _,c,.fst::b,a=>ip e c.1 b a
 |.pr _ f,c,.snd::b,a=>ip f c.2 b a
 |_,_,_,_=>br
def Za {a:k.den}:ip k a [] Q=il Q a:=by cases k<;>rfl
theorem jo:∀{g:bp a6} {τ:ak} {e:τ.den} {d:ak} {f:d.den},ip τ e g d=Y f->e2 τ e g d f
 |[],τ,e,d,f,c=>by rw[Za] at c;cases kY c;grind [e2.gK]
 |s::g,τ,e,d,f,c=>by
  cases τ<;>cases s<;>simp only[ip] at c<;>try (cases c;done)
  case osl.idx t i=>
   split at c
   ·rename_i h j;exact⟨h,j,jo c⟩
   grind
  case optr.deref t=>exact jo (τ:=t) c
  case st.unst t=>exact jo (τ:=t) c
  case pr.fst a b=>exact jo (τ:=a) c
  case pr.snd a b=>exact jo (τ:=b) c
def y1 {τ':ak} (b:τ'.den) (a:ak):bv a.den:=if e:eZ τ' a=bt then Y (cast (eZ.den e) b) else br
theorem Sw {b:Q.den} {c:k.den} (a:y1 b k=Y c):oZ Q b k c:=by
 unfold y1 at a;split at a
 ·rename_i d;cases a;exact .same d (cast_heq _ _).symm
 grind
def B9:(c:ak)->c.den->(b:ak)->bv b.den
 |.optr d,a,.ptr .cX e=>(y1 (τ':=d) a e).map Y
 |_,a,b=>y1 a b
theorem aeq {c:Q.den} {d:k.den} (a:B9 Q c k=Y d):oZ Q c k d:=by
 unfold B9 at a;split at a
 ·obtain⟨f,b,rfl⟩:=fQ.1 a;simp only[y1] at b;split at b
  ·rename_i e;cases b;exact .ptr e (cast_heq _ _).symm
  grind
 exact Sw a
def qY:ak->Value->bD
 |τ,.agg _=>p8 τ
 |_,.tuple _=>bu
 |τ,_=>!p8 τ
theorem qY.ok (a:qY k R=bt):c9 k R.cells.toList=R:=by
 cases R<;>simp only[qY] at a<;>first
  |(cases a;done)
  |(rw[GP a];rfl)
  |(rw[uY] at a;rw[GO a];rfl)
def og (
 h:bp (X×aI)) (f:amu):ao->(a:ak)->bv a.den
 |.val _ g,a=>y1 g a
 |.eI d,a=>bif qY a d then jm a d.cells.toList else br
 |.ref id c,a=>match e6 id f with
  |true=>br
  |false=>match ax h id with
   |none=>br
   |some b=>match fE b.1 c with
    |none=>br
    |some e=>match ip b.1 b.2 c e with
     |none=>br
     |some i=>B9 e i a
 |_,_=>br
theorem Ih {h:k.den} (a:og e f d k=Y h):zw e f d ⟨k,h⟩:=by
 cases d with
 |val c b=>exact Sw a
 |eI p=>
  simp only[og] at a;cases i:qY k p with
  |false=>grind
  |true=>rw[i] at a;exact⟨a,qY.ok i⟩
 |ref id n=>
  simp only[og] at a;split at a
  ·cases a
  rename_i j;split at a
  ·cases a
  rename_i o l;split at a
  ·cases a
  rename_i c q;split at a
  ·cases a
  rename_i b m;have:e6 id f=bu/\∃g c b,ax e id=Y g/\e2 g.1 g.2 n c b/\oZ c b k h:=⟨j,o,c,b,l,jo m,aeq a⟩;exact this
 |_=>cases a
def vC (d:bp (X×aI)) (c:amu):ao->(b:ak)->bv b.den
 |.hY a,.ptr .bm e=>bif py e then(og d c a e).map Y else br
 |a,b=>og d c a b
def tF (d:bp (X×aI)) (c:amu):bp ao->(b:ak)->bv b.den
 |[],.nil=>Y ()
 |a::f,.pr e b=>bif py e then(vC d c a e).bind λh=>(tF d c f b).map λg=>(h,g) else br
 |_,_=>br
def xQ (d:bp (X×aI)) (c:amu):ao->(b:ak)->bv b.den
 |.hY (.eG f e),.ptr .bm (.fn g h)=>bif bL f g then(tF d c e h).map Y else br
 |a,b=>vC d c a b
def Of {c:k.den} (a:vC e f d k=Y c):pB e f d k c:=by
 unfold vC at a;split at a
 ·rename_i i h;cases b:py h with
  |false=>rw[b] at a;cases a
  |true=>
   rw[b,bI] at a;obtain⟨j,g,rfl⟩:=fQ.1 a;exact .hY b (.base (Ih g))
 exact .base (Ih a)
def Oh {h:bp (X×aI)} {g:amu}:∀{f:bp ao} {c:ak} {d:c.den},tF h g f c=Y d->xe h g f c d
 |[],c,d,b=>by
  cases c<;>simp only[tF] at b<;>try (cases b;done)
  exact .nil
 |a::f,c,d,b=>by
  cases c<;>simp only[tF] at b<;>try (cases b;done)
  rename_i c l;cases e:py c with
  |false=>rw[e] at b;cases b
  |true=>
   rw[e,bI] at b;obtain⟨m,j,b⟩:=e3.1 b;obtain⟨k,i,rfl⟩:=fQ.1 b;exact .cons e (Of j) (Oh i)
def WV {c:k.den} (a:xQ e f d k=Y c):pB e f d k c:=by
 unfold xQ at a;split at a
 ·rename_i h j i l;cases b:bL h i with
  |false=>rw[b] at a;cases a
  |true=>
   rw[b,bI] at a;obtain rfl:=fJ b;obtain⟨m,g,rfl⟩:=fQ.1 a;exact .hY bq (.eG (Oh g))
 exact Of a
def p6 (b:bp (X×aI)) (a:amu):(g:bp ak)->bp ao->bv (lR g)
 |[],[]=>Y ()
 |τ::d,c::as=>match xQ b a c τ with
  |some f=>(p6 b a d as).map (λe=>(f,e))
  |none=>br
 |_,_=>br
def PT {f:bp (X×aI)} {d:amu}:∀{c:bp ak} {e:bp ao} {b:lR c},p6 f d c e=Y b->i5 (λb g=>pB f d b g.1 g.2) e (jG c b)
 |[],[],_,_=>trivial
 |[],_::_,_,a|_::_,[],_,a=>by cases a
 |τ::k,j::as,b,a=>by
  simp only[p6] at a;split at a
  case h_2=>cases a
  rename_i m i;obtain⟨l,h,rfl⟩:=fQ.1 a;exact⟨WV i,PT h⟩
def sX:bp ao->bp hB->amu
 |.ref id []::as,.m _::a|.ref id []::as,.o _::a|.view id [] _ _::as,.w _::a=>id::sX as a
 |_::as,_::a=>sX as a
 |_,_=>[]
def uD:Value->bD
 |.slice br 0 0=>bt
 |_=>bu
theorem uD.ok (a:uD R=bt):R=.slice br 0 0:=by grind [uD]
def BX:(a:ak)->Value->bv a.den
 |.osl _,.slice br 0 0=>Y []
 |_,_=>br
theorem abn {b:k.den} (a:BX k R=Y b):R=.slice br 0 0/\∃c,(⟨k,b⟩:aI)=⟨.osl c,[]⟩:=by
 unfold BX at a;split at a
 ·simp_all
 grind
def ga (d:bp (X×aI)) (f:amu):(t:bp hB)->bp ao->bv (hJ t)
 |[],[]=>Y ()
 |.v g::b,p::as=>match og d f p g with
  |some e=>(ga d f b as).map (λa=>(e,a))
  |none=>br
 |.c r u::b,.eG q a::as=>bif bL q r then match p6 d f u a with
  |some e=>(ga d f b as).map (λa=>(e,a))
  |none=>br else br
 |.m g::b,.ref id []::as=>bif g.gr&&s5 g then match ax d id with
  |some h=>match il g h.2 with
   |some e=>(ga d f b as).map (λa=>(e,a))
   |none=>br
  |none=>br else br
 |.o g::b,.ref id []::as=>match ax d id with
  |some h=>match il g h.2 with
   |some e=>(ga d f b as).map (λa=>(e,a))
   |none=>br
  |none=>br
 |.n::b,.eI i::as=>bif uD i then(ga d f b as).map (λa=>((),a)) else br
 |.s _ _::b,_::as=>(ga d f b as).map (λa=>((),a))
 |.o g::b,.eI i::as=>match BX g i with
  |some e=>(ga d f b as).map (λa=>(e,a))
  |none=>br
 |.w l::b,.view id [] k j::as=>bif l.gr then(bif cg k j then match ax d id with
  |some h=>match il (.osl l) h.2 with
   |some e=>(ga d f b as).map (λa=>((e,k,j),a))
   |none=>br
  |none=>br else br) else br
 |_,_=>br
def Dl {h:Type} (f:bp (X×aI)) (e:amu) (av:ao) (c:ak) (d:c.den->bv h):bv h:=match av with
 |.ref id g=>match e6 id e with
  |true=>br
  |false=>match ax f id with
   |none=>br
   |some a=>match fE a.1 g with
    |none=>br
    |some i=>(ip a.1 a.2 g i).bind λj=>match B9 i j c with
     |none=>br
     |some b=>d b
 |av=>match og f e av c with
  |none=>br
  |some b=>d b
theorem Wk {c:k.den->bv b}:Dl e f d k c=(og e f d k).bind c:=by
 cases d with
 |ref id g=>
  grind [e6,ax,fE,ip,B9,Dl,og]
 |_=>
  simp only[Dl];split
  ·rename_i a;rw[a];rfl
  rename_i a;rw[a];rfl
def k2 {p:Type} (e:bp (X×aI)) (g:amu):(x:bp hB)->bp ao->(hJ x->bv p)->bv p
 |[],[],a=>a ()
 |.v h::d,r::as,a=>Dl e g r h λf=>k2 e g d as λb=>a (f,b)
 |.c u y::d,.eG t b::as,a=>bif bL t u then match p6 e g y b with
  |some f=>k2 e g d as λb=>a (f,b)
  |none=>br else br
 |.m h::d,.ref id []::as,a=>bif h.gr&&s5 h then match ax e id with
  |some i=>match il h i.2 with
   |some f=>k2 e g d as λb=>a (f,b)
   |none=>br
  |none=>br else br
 |.o h::d,.ref id []::as,a=>match ax e id with
  |some i=>match il h i.2 with
   |some f=>k2 e g d as λb=>a (f,b)
   |none=>br
  |none=>br
 |.n::d,.eI j::as,a=>bif uD j then k2 e g d as λb=>a ((),b) else br
 |.s _ _::d,_::as,a=>k2 e g d as λb=>a ((),b)
 |.o h::d,.eI j::as,a=>match BX h j with
  |some f=>k2 e g d as λb=>a (f,b)
  |none=>br
 |.w q::d,.view id [] l k::as,a=>bif q.gr then(bif cg l k then match ax e id with
  |some i=>match il (.osl q) i.2 with
   |some f=>k2 e g d as λb=>a ((f,l,k),b)
   |none=>br
  |none=>br else br) else br
 |_,_,_=>br
theorem oq {A:Type} {d:bp (X×aI)} {f:amu}:∀{k:bp hB} {q:bp ao} {b:hJ k->bv A},k2 d f k q b=(ga d f k q).bind b
 |[],[],b|[],_::_,b=>rfl
 |p::a,[],b=>by cases p<;>rfl
 |.v h::a,e::as,b=>by
  simp only[k2,ga,Wk];cases og d f e h with
  |none=>rfl
  |some g=>
   simp only[aM];rw[oq];cases ga d f a as<;>rfl
 |.c z B::a,e::as,b=>by
  cases e with
  |eG y i=>
   simp only[k2,ga];cases bL y z with
   |false=>rfl
   |true=>
    simp only[bI];cases p6 d f B i with
    |none=>rfl
    |some g=>
     simp only;rw[oq];cases ga d f a as<;>rfl
  |ref id p=>cases p<;>rfl
  |_=>rfl
 |.m h::a,e::as,b=>by
  cases e with
  |ref id p=>
   cases p with
   |cons=>rfl
   |nil=>
    simp only[k2,ga];cases(h.gr&&s5 h) with
    |false=>rfl
    |true=>
     simp only[bI];cases ax d id with
     |none=>rfl
     |some j=>
      simp only;cases il h j.2 with
      |none=>rfl
      |some g=>
       simp only;rw[oq];cases ga d f a as<;>rfl
  |_=>rfl
 |.o h::a,e::as,b=>by
  cases e with
  |ref id p=>
   cases p with
   |cons=>rfl
   |nil=>
    simp only[k2,ga];cases ax d id with
    |none=>rfl
    |some j=>
     simp only;cases il h j.2 with
     |none=>rfl
     |some g=>
      simp only;rw[oq];cases ga d f a as<;>rfl
  |eI l=>
   simp only[k2,ga];cases BX h l with
   |none=>rfl
   |some g=>
    simp only;rw[oq];cases ga d f a as<;>rfl
  |_=>rfl
 |.w u::a,e::as,b=>by
  cases e with
  |view id p t r=>
   cases p with
   |cons=>rfl
   |nil=>
    simp only[k2,ga];cases u.gr with
    |false=>rfl
    |true=>
     simp only[bI];cases cg t r with
     |false=>rfl
     |true=>
     simp only[bI];cases ax d id with
     |none=>rfl
     |some j=>
      simp only;cases il (.osl u) j.2 with
      |none=>rfl
      |some g=>
       simp only;rw[oq];cases ga d f a as<;>rfl
  |ref id p=>cases p<;>rfl
  |_=>rfl
 |.n::a,e::as,b=>by
  cases e with
  |eI l=>
   simp only[k2,ga];cases uD l with
   |false=>rfl
   |true=>
    simp only[bI];rw[oq];cases ga d f a as<;>rfl
  |ref id p=>cases p<;>rfl
  |_=>rfl
 |.s C i::a,e::as,b=>by
  have x:∀g:bv (hJ a),(g.bind λi=>b ((),i))=(g.map λi=>((),i)).bind b:=λg=>(by cases g<;>rfl);cases e with
  |ref id p|view id p t r=>cases p<;>(simp only[k2,ga];rw[oq];grind)
  |_=>simp only[k2,ga];rw[oq];exact x _
theorem Mw {r:Type}:∀{ps:bp hB} {a:hJ ps} {b:jd ps r} {avs:bp ao},gF avs (gX ps a b)=sX avs ps
 |[],a,b,avs=>by cases avs with|nil=>rfl|cons h c=>cases h<;>first|rfl|(rename_i id p;cases p<;>rfl)|(rename_i id p c g;cases p<;>rfl)
 |p::c,a,b,[]=>by cases p<;>rfl
 |p::c,a,b,f::avs=>by have d:=λa b=>Mw (r:=r) (ps:=c) (a:=a) (b:=b) (avs:=avs);cases p<;>cases f<;>first|exact d _ _|(rename_i id e;cases e<;>simp only[gX,gF,sX,d];done)|(rename_i id e c g;cases e<;>simp only[gX,gF,sX,d])
theorem q6 {G:Type} {q:bp (X×aI)} {u:amu}:∀{r:bp hB} {e:hJ r} {g:jd r G} {h:bp ao},ga q u r h=Y e->pA q u h (gX r e g)
 |[],e,g,[],_=>trivial
 |[],e,g,_::_,a=>by cases a
 |p::i,e,g,[],a=>by cases p<;>cases a
 |.v t::i,e,g,d::h,a=>by
  simp only[ga] at a;split at a
  case h_2=>cases a
  rename_i l j;obtain⟨k,b,rfl⟩:=fQ.1 a;exact⟨by cases d<;>exact Ih j,q6 b⟩
 |.c F J::i,e,g,d::h,a=>by
  cases d with
  |eG E k=>
   simp only[ga] at a;cases f:bL E F with
   |false=>grind
   |true=>
    rw[f] at a;obtain rfl:=fJ f;simp only[bI] at a;split at a
    case h_2=>cases a
    rename_i l j;obtain⟨I,b,rfl⟩:=fQ.1 a;exact⟨⟨bq,PT j⟩,q6 b⟩
  |ref id p=>cases p<;>cases a
  |_=>cases a
 |.m t::i,e,g,d::h,a=>by
  cases d with
  |ref id p=>cases p with
   |cons=>cases a
   |nil=>
    simp only[ga] at a;cases f:(t.gr&&s5 t) with
    |false=>grind
    |true=>
     rw[f] at a;simp only[cJ] at f;simp only[bI] at a;split at a
     case h_2=>cases a
     rename_i B A;split at a
     case h_2=>cases a
     rename_i l j;obtain⟨k,b,rfl⟩:=fQ.1 a;refine⟨⟨?_,f.1,f.2⟩,q6 b⟩;grind [kY]
  |_=>cases a
 |.o t::i,e,g,d::h,a=>by
  cases d with
  |ref id p=>cases p with
   |cons=>cases a
   |nil=>
    simp only[ga] at a;split at a
    case h_2=>cases a
    rename_i B A;split at a
    case h_2=>cases a
    rename_i l j;obtain⟨k,b,rfl⟩:=fQ.1 a;refine⟨?_,q6 b⟩;show ax q id=Y _;grind [kY]
  |eI C=>
   simp only[ga] at a;split at a
   case h_2=>cases a
   rename_i l j;obtain⟨k,b,rfl⟩:=fQ.1 a;exact⟨abn j,q6 b⟩
  |_=>cases a
 |.w H::i,e,g,d::h,a=>by
  cases d with
  |view id p y x=>cases p with
   |cons=>cases a
   |nil=>
    simp only[ga] at a;cases f:H.gr with
    |false=>grind
    |true=>
     rw[f] at a;simp only[bI] at a;cases z:cg y x with
     |false=>grind
     |true=>
     rw[z] at a;simp only[bI] at a;split at a
     case h_2=>cases a
     rename_i B A;split at a
     case h_2=>cases a
     rename_i l j;obtain⟨k,b,rfl⟩:=fQ.1 a;refine⟨⟨?_,⟨bq,bq⟩,ha z,f⟩,q6 b⟩;grind [kY]
  |ref id p=>cases p<;>cases a
  |_=>cases a
 |.n::i,e,g,d::h,a=>by
  cases d with
  |eI C=>
   simp only[ga] at a;cases f:uD C with
   |false=>grind
   |true=>
    rw[f] at a;obtain⟨k,b,rfl⟩:=fQ.1 a;exact⟨uD.ok f,q6 b⟩
  |ref id p=>cases p<;>cases a
  |_=>cases a
 |.s D k::i,e,g,d::h,a=>by
  have a:(ga q u i h).map (λl=>(((),l):hJ (.s D k::i)))=Y e:=by
   cases d with
   |ref id p|view id p y x=>cases p<;>exact a
   |_=>exact a
  obtain⟨l,b,rfl⟩:=fQ.1 a;refine⟨?_,q6 b⟩;cases d with
  |ref id p|view id p y x=>cases p<;>trivial
  |_=>trivial
end
section
def nq:(τ:ak)->τ.den->bp a6->(b:ak)->b.den->bv τ.den
 |τ,_,[],_,a=>il τ a
 |.osl f,h,.idx g::c,b,a=>match h[g]? with
  |some k=>(nq f k c b a).map λe=>h.set g e
  |none=>br
 |.optr f,d,.deref::c,b,a|.st f,d,.unst::c,b,a=>nq f d c b a
 |.pr i _,d,.fst::c,b,a=>(nq i d.1 c b a).map λe=>(e,d.2)
 |.pr _ j,d,.snd::c,b,a=>(nq j d.2 c b a).map λe=>(d.1,e)
 |_,_,_,_,_=>br
theorem agW {b:k.den} {a:Q.den}:nq k b [] Q a=il k a:=by cases k<;>rfl
theorem fq.aa8 {d:k.den} {a:Q.den} {b:k.den} (c:il k a=Y b):fq k d [] Q a b:=by cases kY c;cases k<;>exact⟨bq,bq⟩
theorem nV:∀{k:bp a6} {τ:ak} {g:τ.den} {f:ak} {h:f.den} {j:τ.den},nq τ g k f h=Y j->fq τ g k f h j
 |[],τ,g,f,h,j,c=>by grind [fq.aa8,agW]
 |s::k,τ,g,f,h,j,c=>by
  cases τ<;>cases s<;>simp only[nq] at c<;>try (cases c;done)
  case osl.idx t i=>
   split at c
   ·rename_i l m;obtain⟨d,e,rfl⟩:=fQ.1 c;exact⟨l,d,m,nV e,bq⟩
   grind
  case optr.deref t=>exact nV (τ:=t) c
  case st.unst t=>exact nV (τ:=t) c
  case pr.fst a b=>
   obtain⟨d,e,rfl⟩:=fQ.1 c;exact⟨d,nV e,bq⟩
  case pr.snd a b=>
   obtain⟨d,e,rfl⟩:=fQ.1 c;exact⟨d,nV e,bq⟩
def hS (a:Z):amq:=if 0<=a then Y a.toNat else br
theorem aaZ {b:Z} (c:hS b=Y a):b=(a:Z):=by grind [hS]
def bn (b:X) (a:Z):amq:=if 0<=a/\a.toNat<b then Y a.toNat else br
theorem Qa {b:Z} (c:bn m b=Y a):b=(a:Z)/\a<m:=by grind [bn]
def c3 (a:X):bv bz:=if a<=hR then Y () else br
theorem yL {b:bz} (c:c3 a=Y b):a<=hR:=by grind [c3]
def kN (b:cn) (c a:Z):amp:=if a≠0 then Y (b.wrap (c.tdiv a)) else br
def jH (b a:Z):amp:=if a≠0 then Y (b.tmod a) else br
def js (a:cn) (c b:Z):amp:=if 0<=b then Y (a.wrap (c*2^min b.toNat a.bits)) else br
def e8 (b:cn) (c a:Z):amp:=if 0<=a then Y (c.fdiv (2^min a.toNat b.bits)) else br
def fo (a:cn) (b c:Z):Z:=a.wrap (cl a.bits b&&&cl a.bits c).toNat
def hu (a:cn) (b c:Z):Z:=a.wrap (cl a.bits b|||cl a.bits c).toNat
def uX (a:cn) (b c:Z):Z:=a.wrap (cl a.bits b^^^cl a.bits c).toNat
def Dj (a:cn) (b c:Z):Z:=a.wrap (cl a.bits b&&&~~~cl a.bits c).toNat
def xN (c:bv ao) (a:X):amq:=
 match c with
 |none=>Y a
 |some (.val (.int _) b)=>hS b
 |some _=>br
theorem Dt {c:bv ao} (b:xN c a=Y m):tD c a m:=by
 unfold xN at b;unfold tD;split at b
 ·grind
 ·exact aaZ b
 grind
def iA (b a c:X):bv bz:=if b<=a/\a<=c then Y () else br
theorem Qs {b:X} {c:bz} (d:iA m a b=Y c):m<=a/\a<=b:=by grind [iA]
def y4 (_:X):bv bz:=Y ()
def fR (a b:Z):amq:=if 0<=a/\a<=b/\b<=(hR:Z) then Y a.toNat else br
open Classical in
def BW {b:Type} (c:X) (d a:bv b):bv b:=if c=0 then if d=a then a else br else a
theorem aa5 {d e:bv b} {c:b} (f:BW a d e=Y c):e=Y c/\(a=0->d=Y c):=by grind [absurd,BW]
def Ao {b:Type} (a:bp b×bz):bv (bp b×bz):=BW a.1.length (Y ([],())) ((c3 (([]:bp b).length+a.1.length)).bind λ_=>Y ([]++a.1,()))
def IE {a:Type} (b:bp a×bz):bv (bp a×bz):=(c3 (([]:bp a).length+b.1.length)).bind λ_=>Y ([]++b.1,())
def IF (a:bp b×bz):Ao a=IE a:=by
 unfold Ao BW;split
 ·rename_i d;have c:IE a=Y ([],()):=by
   unfold IE;rw[qv d];rfl
  exact(ay c.symm).trans bq
 rfl
def qW:amv:=[0,1,28,2,29,14,24,3,30,22,20,15,25,17,4,8,31,27,13,23,21,19,16,7,26,12,18,6,11,5,10,9]
inductive HS where
 |ff (av:ao)
 |opt (α:Type) (o:bv α) (f:α->ao)
 |new (α:Type) (o:bv α) (t:α->aI) (d:X)
 |no
def lm (tt:bp (bH×ak)) (y:bp (X×ak)) (k:bp (X×aI)) (g:bO->ao) (w:X) (v:Op):HS:=
 match v with
 |.binOp v _ b e _=>match g b,g e with
  |.val (.int c) b,.val (.int z) e=>if c=z then
   (match v with
   |.add=>.ff (.val (.int c) (c.wrap (b+e)))
   |.sub=>.ff (.val (.int c) (c.wrap (b-e)))
   |.mul=>.ff (.val (.int c) (c.wrap (b*e)))
   |.quo=>.opt Z (kN c b e) (.val (.int c))
   |.rem=>.opt Z (jH b e) (.val (.int c))
   |.shl=>.opt Z (js c b e) (.val (.int c))
   |.shr=>.opt Z (e8 c b e) (.val (.int c))
   |.and=>.ff (.val (.int c) (fo c b e))
   |.or=>.ff (.val (.int c) (hu c b e))
   |.xor=>.ff (.val (.int c) (uX c b e))
   |.andNot=>.ff (.val (.int c) (Dj c b e))
   |_=>.no) else
   (match v with
   |.shl=>.opt Z (js c b e) (.val (.int c))
   |.shr=>.opt Z (e8 c b e) (.val (.int c))
   |_=>.no)
  |_,_=>.no
 |.unOp .neg _ b=>match g b with
  |.val (.int c) b=>.ff (.val (.int c) (c.wrap (0-b)))
  |_=>.no
 |.convert t p b=>match ax tt t,ax tt p,g b with
  |some (.int _),Y (.int c),.val (.int _) b=>.ff (.val (.int c) (c.wrap b))
  |_,_,_=>.no
 |.nilCheck b=>match g b with
  |.val (.ptr r a) b=>.opt a.den b λe=>.val (.ptr r a) (Y e)
  |_=>.no
 |.indexAddr h b q=>match hf tt h,g q with
  |some i,.val (.int _) q=>match g b with
   |.val (.bc r a) j=>bif bg i a then .opt a.den (az j q) λe=>.val (.ptr r a) (Y e) else .no
   |.ref id f=>match ax k id with
    |some d=>match fE d.1 f with
     |some (.osl a)=>bif bg i a then .opt X ((ip d.1 d.2 f (.osl a)).bind λj=>bn j.length q) λc=>.addr id (f++[.idx c]) else .no
     |_=>.no
    |none=>.no
   |.view id [] s u=>match ax k id with
    |some d=>match d.1 with
     |.osl a=>bif bg i a then .opt X (bn (u-s) q) λc=>.addr id [.idx (s+c)] else .no
     |_=>.no
    |none=>.no
   |_=>.no
  |_,_=>.no
 |.load h b=>match ax tt h with
  |some i=>match g b with
   |.addr id f=>match ax k id with
    |some d=>match fE d.1 f with
     |some a=>bif bg i a&&a.pure then .opt a.den (ip d.1 d.2 f a) λe=>.val a e else .no
     |none=>.no
    |none=>.no
   |.ref id f=>match ax k id with
    |some d=>match fE d.1 f with
     |some (.optr a)=>bif bg i a&&a.pure then .opt a.den (ip d.1 d.2 (f++[.deref]) a) λe=>.val a e else .no
     |_=>.no
    |none=>.no
   |.val (.ptr _ a) b=>bif bg i a then .opt a.den b λe=>wI a e else .no
   |_=>.no
  |none=>.no
 |.fieldAddr h b m=>match mg tt h,g b with
  |some i,.val (.ptr r (.st a)) b=>bif bg i a&&(fS a m).isSome then .opt a.den b λe=>(match sp a e m with
   |some n=>.val (.ptr r n.1) (Y n.2)
   |none=>.dead) else .no
  |_,_=>.no
 |.slice h b s u br=>match hf tt h with
  |some i=>match g b with
   |.val (.bc r a) j=>bif bg i a then
    .opt es ((xN (s.map g) 0).bind λl=>(xN (u.map g) j.length).bind λp=>(iA l p j.length).map λ_=>(l,p)) (λn=>.val (.bc r a) ((j.take n.2).drop n.1)) else .no
   |.ref id f=>match ax k id with
    |some d=>match fE d.1 f with
     |some (.osl a)=>bif bg i a then
      .opt es ((ip d.1 d.2 f (.osl a)).bind λj=>(xN (s.map g) 0).bind λl=>(xN (u.map g) j.length).bind λp=>(iA l p j.length).bind λ_=>(y4 j.length).map λ_=>(l,p)) (λn=>.view id f n.1 n.2) else .no
     |_=>.no
    |none=>.no
   |_=>.no
  |none=>.no
 |.makeSlice h l o=>match hf tt h,ax y w,ax k w with
  |some i,Y (.osl a),br=>match m0 a,g l,g o with
   |some x,.val (.int _) l,.val (.int _) o=>bif bg i a&&b5 a.size 2000 then
    .new X (fR l o) (λm=>⟨.osl a,bM m x⟩) w else .no
   |_,_,_=>.no
  |_,_,_=>.no
 |.index h b q=>match ax tt h,g b,g q with
  |some .str,.eI (.string t),.val (.int _) m|some .str,.val .str t,.val (.int _) m=>.opt Z (rG t m) (.val (.int .u8))
  |_,_,_=>.no
 |.lookup h b c A=>match lP tt h,g b,g c with
  |some i,.ref id f,.val (.int .i64) c=>match ax k id with
   |some d=>match fE d.1 f with
    |some (.mp a)=>match m0 a with
     |some x=>bif bg i a then .opt (bv (bp (Z×a.den)×X)) (ip d.1 d.2 f (.mp a)) λba=>F7 a ba x c A else .no
     |none=>.no
    |_=>.no
   |none=>.no
  |_,_,_=>.no
 |.call o=>match o.callee,o.args.toList,o.argTypes.toList with
  |.builtin .len,[b],[h]=>match hf tt h,g b with
   |some _,.ref id f=>match ax k id with
    |some d=>match fE d.1 f with
     |some (.osl a)=>.opt (bp a.den) (ip d.1 d.2 f (.osl a)) λj=>.val (.int .i64) (j.length:Z)
     |_=>.no
    |none=>.no
   |none,.ref id f=>match lP tt h,ax k id with
    |some _,Y d=>match fE d.1 f with
     |some (.mp a)=>.opt (bv (bp (Z×a.den)×X)) (ip d.1 d.2 f (.mp a)) λba=>.val (.int .i64) (yN ba)
     |_=>.no
    |_,_=>.no
   |_,_=>.no
  |_,_,_=>.no
 |_=>.no
theorem PF:∀{t:ak} {y:t.den} {b:X},(fS t b).isSome=bt->∃d,sp t y b=Y d
 |.pr e c,y,0,_=>⟨_,bq⟩
 |.pr e c,y,b+1,a=>by
  simp only[fS] at a;split at a
  ·rename_i d f;exact PF (t:=c) ae
  grind
 |.int _,_,_,a|.bool,_,_,a|.str,_,_,a|.bc _ _,_,_,a|.ptr _ _,_,_,a|.osl _,_,_,a|.optr _,_,_,a|.st _,_,_,a|.nil,_,_,a|.eO,_,_,a=>by cases a
def HS.K (g:HS) (b:ao->bp (X×aI)->Prop):Prop:=
 match g with
 |.ff e=>b e []
 |.opt _ c f=>∃a,c=Y a/\b (f a) []
 |.new _ c h d=>∃a,c=Y a/\b (.ref d []) [(d,h a)]
 |.no=>b7
theorem JD {tt:bp (bH×ak)} {P:Op} {Q:ao->bp (X×aI)->Prop} (b:(lm tt l e V a P).K Q):(hp tt l e V a P).K Q:=by
 unfold lm at b;split at b
 ·rename_i P r m j a0;simp only[hp];split at b
  case h_2=>exact b.elim
  rename_i q m T j h ad;simp only[h,ad];split at b
  ·rename_i x;subst x;split at b
   ·simp only[mH,cq];exact⟨_,⟨trivial,bq⟩,b⟩
   ·simp only[mH,cq];exact⟨_,⟨trivial,bq⟩,b⟩
   ·simp only[mH,cq];exact⟨_,⟨trivial,bq⟩,b⟩
   ·obtain⟨w,i,f⟩:=b;unfold kN at i;split at i
    ·rename_i c;cases i;simp only[mH,cq];exact⟨_,⟨c,bq⟩,f⟩
    grind
   ·obtain⟨w,i,f⟩:=b;unfold jH at i;split at i
    ·rename_i c;cases i;simp only[mH,cq];exact⟨_,⟨c,bq⟩,f⟩
    grind
   ·obtain⟨w,i,f⟩:=b;unfold js at i;split at i
    ·rename_i c;cases i;exact⟨_,⟨c,bq⟩,f⟩
    grind
   ·obtain⟨w,i,f⟩:=b;unfold e8 at i;split at i
    ·rename_i c;cases i;exact⟨_,⟨c,bq⟩,f⟩
    grind
   ·simp only[mH,cq];exact⟨_,⟨trivial,bq⟩,b⟩
   ·simp only[mH,cq];exact⟨_,⟨trivial,bq⟩,b⟩
   ·simp only[mH,cq];exact⟨_,⟨trivial,bq⟩,b⟩
   ·simp only[mH,cq];exact⟨_,⟨trivial,bq⟩,b⟩
   exact b.elim
  split at b
  ·obtain⟨w,i,f⟩:=b;unfold js at i;split at i
   ·rename_i c;cases i;exact⟨_,⟨c,bq⟩,f⟩
   grind
  ·obtain⟨w,i,f⟩:=b;unfold e8 at i;split at i
   ·rename_i c;cases i;exact⟨_,⟨c,bq⟩,f⟩
   grind
  exact b.elim
 ·rename_i r m;simp only[hp];split at b
  case h_2=>exact b.elim
  rename_i q m h;rw[h];exact⟨_,bq,b⟩
 ·rename_i U x m;simp only[hp,DC];split at b
  case h_2=>exact b.elim
  rename_i T q a4 m ar o h;rw[ar,o,h];exact⟨_,bq,b⟩
 ·rename_i m;simp only[hp,wD];split at b
  case h_2=>exact b.elim
  rename_i E g m h;rw[h];obtain⟨j,rfl,f⟩:=b;exact⟨j,bq,f⟩
 ·rename_i r m S;simp only[hp,wk];split at b
  case h_2=>exact b.elim
  rename_i k q S ar o;rw[ar,o];simp only;split at b
  ·rename_i E g D h;rw[h];simp only;cases d:bg k g with
   |false=>rw[d] at b;exact b.elim
   |true=>
   rw[d] at b;obtain⟨j,c,f⟩:=b;exact⟨j,c,f⟩
  ·rename_i id B h;rw[h];simp only;split at b
   case h_2=>exact b.elim
   rename_i t n;rw[n];simp only;split at b
   case h_2=>exact b.elim
   rename_i g p;rw[p];simp only;cases d:bg k g with
   |false=>rw[d] at b;exact b.elim
   |true=>
   rw[d] at b;obtain⟨j,c,f⟩:=b;obtain⟨D,N,c⟩:=e3.1 c;obtain⟨u,v⟩:=Qa c;exact⟨(D,j),⟨jo N,u,v⟩,f⟩
  ·rename_i id ap am h;rw[h];simp only;split at b
   case h_2=>exact b.elim
   rename_i t n;obtain⟨bx,m⟩:=t;rw[n];simp only at b|-;split at b
   case h_2=>exact b.elim
   rename_i g;simp only[fE];cases d:bg k g with
   |false=>rw[d] at b;exact b.elim
   |true=>
   rw[d] at b;obtain⟨q,an,f⟩:=b;obtain⟨u,v⟩:=Qa an;exact⟨(m,q),⟨⟨bq,bq⟩,u,v⟩,f⟩
  exact b.elim
 ·rename_i r m;simp only[hp,wu];split at b
  case h_2=>exact b.elim
  rename_i k ar;rw[ar];simp only;split at b
  ·rename_i id B h;rw[h];simp only;split at b
   case h_2=>exact b.elim
   rename_i t n;rw[n];simp only;split at b
   case h_2=>exact b.elim
   rename_i g p;rw[p];simp only[wN];cases d:(bg k g&&g.pure) with
   |false=>rw[d] at b;exact b.elim
   |true=>
   rw[d] at b;simp only[cJ] at d;rw[d.1,d.2];obtain⟨j,c,f⟩:=b;exact⟨j,jo c,f⟩
  ·rename_i id B h;rw[h];simp only;split at b
   case h_2=>exact b.elim
   rename_i t n;rw[n];simp only;split at b
   case h_2=>exact b.elim
   rename_i g p;rw[p];simp only[wN];cases d:(bg k g&&g.pure) with
   |false=>rw[d] at b;exact b.elim
   |true=>
   rw[d] at b;simp only[cJ] at d;rw[d.1,d.2];obtain⟨j,c,f⟩:=b;exact⟨j,jo c,f⟩
  ·rename_i E g m h;rw[h];cases d:bg k g with
   |false=>rw[d] at b;exact b.elim
   |true=>
   rw[d] at b;obtain⟨j,rfl,f⟩:=b;simp only[d,bI];exact f
  exact b.elim
 ·rename_i r m O;simp only[hp,we];split at b
  case h_2=>exact b.elim
  rename_i k E g m ar h;rw[ar,h];cases d:(bg k g&&(fS g O).isSome) with
  |false=>rw[d] at b;exact b.elim
  |true=>
  rw[d] at b;simp only[cJ] at d;obtain⟨j,rfl,f⟩:=b;obtain⟨bs,R⟩:=PF (y:=j) d.2;simp only[R] at f;simp only[d.1,bI,R];exact f
 ·rename_i r m ap am;simp only[hp,wX];split at b
  case h_2=>exact b.elim
  rename_i k ar;rw[ar];simp only;split at b
  ·rename_i E g D h;rw[h];simp only;cases d:bg k g with
   |false=>rw[d] at b;exact b.elim
   |true=>
   rw[d] at b;obtain⟨j,c,f⟩:=b;obtain⟨A,L,c⟩:=e3.1 c;obtain⟨x,J,c⟩:=e3.1 c;obtain⟨av,M,rfl⟩:=fQ.1 c;obtain⟨u,v⟩:=Qs M;exact⟨(A,x),⟨Dt L,Dt J,u,v⟩,f⟩
  ·rename_i id B h;rw[h];simp only;split at b
   case h_2=>exact b.elim
   rename_i t n;rw[n];simp only;split at b
   case h_2=>exact b.elim
   rename_i g p;rw[p];simp only;cases d:bg k g with
   |false=>rw[d] at b;exact b.elim
   |true=>
   rw[d] at b;obtain⟨j,c,f⟩:=b;obtain⟨D,N,c⟩:=e3.1 c;obtain⟨A,L,c⟩:=e3.1 c;obtain⟨x,J,c⟩:=e3.1 c;obtain⟨av,M,c⟩:=e3.1 c;obtain⟨fy,a3,rfl⟩:=fQ.1 c;obtain⟨u,v⟩:=Qs M;exact⟨(D,A,x),⟨jo N,Dt L,Dt J,u,v⟩,f⟩
  exact b.elim
 ·rename_i r A G;simp only[hp,wx];split at b
  case h_2=>exact b.elim
  rename_i k g ar o s;rw[ar,o,s];simp only;split at b
  case h_2=>exact b.elim
  rename_i w q A T G z C H;rw[z,C,H];simp only;cases d:(bg k g&&b5 g.size 2000) with
  |false=>rw[d] at b;exact b.elim
  |true=>
  rw[d] at b;obtain⟨j,c,f⟩:=b;unfold fR at c;split at c
  ·rename_i I;cases c;exact⟨(A.toNat,G.toNat),⟨(arc I.1).symm,(arc (Int.le_trans I.1 I.2.1)).symm,aa,aa⟩,f⟩
  grind
 ·rename_i r m S;simp only[hp,Hc];split at b
  ·rename_i U q O ar o s;rw[ar,o,s];obtain⟨F,d,f⟩:=b;exact⟨F,d,f⟩
  ·rename_i U q O ar o s;rw[ar,o,s];obtain⟨F,d,f⟩:=b;exact⟨F,d,f⟩
  exact b.elim
 ·rename_i r m q bl;simp only[hp,wv];split at b
  case h_2=>exact b.elim
  rename_i k id B q ar o s;rw[ar,o,s];simp only;split at b
  case h_2=>exact b.elim
  rename_i t n;rw[n];simp only;split at b
  case h_2=>exact b.elim
  rename_i g p;rw[p];simp only;split at b
  case h_2=>exact b.elim
  rename_i w i;rw[i];simp only;cases d:bg k g with
  |false=>rw[d] at b;exact b.elim
  |true=>
  rw[d] at b;obtain⟨j,c,f⟩:=b;exact⟨j,jo c,f⟩
 ·rename_i G;simp only[hp];split at b
  ·rename_i m r ar o s;rw[ar,o,s];simp only;split at b
   ·rename_i k id B z C;rw[z,C];simp only[wq,z];split at b
    case h_2=>exact b.elim
    rename_i t n;rw[n];simp only;split at b
    case h_2=>exact b.elim
    rename_i g p;rw[p];obtain⟨j,c,f⟩:=b;exact⟨j,jo c,f⟩
   ·rename_i id B z C;rw[z,C];simp only[wz];split at b
    case h_2=>exact b.elim
    rename_i k t H n;rw[H,n];simp only;split at b
    case h_2=>exact b.elim
    rename_i g p;rw[p];obtain⟨j,c,f⟩:=b;exact⟨j,jo c,f⟩
   exact b.elim
  exact b.elim
 exact b.elim
def ka {e:Type} (c d:bp e) (a b:X):bp e:=c.take a++(d.take (b-a)++c.drop (a+min d.length (b-a)))
open Classical in
@[irreducible] def aiY {c d:Type} (b:X->c->bv d) (a:c):bv d:=
 match b J0 a with
 |some e=>Y e
 |none=>if h:∃f,(b f a).isSome=bt then b h.choose a else br
end
section
def BD:ao->bD
 |.val _ _=>bt
 |_=>bu
def Kx:ao->bD
 |.val _ _=>bt
 |.eG _ a=>a.all BD
 |_=>bu
theorem Ky (b:Kx d=bt):∀id∈d.ids,False:=by
 intro id c;cases d with
 |val f e=>grind [bV]
 |eG g a=>
  have b:a.all BD=bt:=b;have:∀a:bp ao,a.all BD=bt->∀id∈anA a,False:=by
   intro a
   induction a with
   |nil=>grind [anA]
   |cons d a h=>
    intro b id c;simp only[tc,cJ] at b;simp only[anA,hl] at c;rcases c with c|c
    ·cases d with
     |val f e=>grind [bV]
     |_=>cases b.1
    grind
  exact this a b id c
 |_=>cases b
def qs (C:fg) (c:bp (X×ao)):Prop:=
 (∀a,C.I0 a\/C.B a->a<C.w0.heap.size/\¬C.F0 a)/\
 ∀b∈c,b.1∈C.pin/\Kx b.2=bt/\c0 (bi C.I0 C.B) C.w0 [] (λ_=>[]) (λ_=>[]) b.2 (C.vs b.1)
section
variable {E:fP} {C:fg}
def qs.nil (b:∀a,C.I0 a\/C.B a->a<C.w0.heap.size/\¬C.F0 a):qs C []:=⟨b,λc b=>by cases b⟩
theorem Zh (c b:bp (X×ao)) (a:X):gt (c++b) a=match ax c a with|some d=>d|none=>gt b a:=by grind [lp,ax,gt]
theorem BK {e:Type}:∀{c:bp (X×e)} {b:X} {d:e},ax c b=Y d->(b,d)∈c
 |[],_,_,a=>by cases a
 |(f,v0)::c,b,d,a=>by
  rw[eJ] at a;split at a
  ·grind
  exact gH _ (BK a)
def g0.kg (f:qs C S) {j:eB} (n:g0 C i j v):g0 C ⟨S++i.g,i.h⟩ j v:=by
 obtain⟨k,w,m,b⟩:=n;refine⟨k,w,m,{b with tmp:=λc=>?_}⟩;show c0 _ _ _ _ _ (gt (S++i.g) c) _;rw[Zh];split
 ·rename_i l s;obtain⟨o,p,d⟩:=f.2 _ (BK s);have d:c0 (bi C.I0 C.B) C.w0 [] (λ_=>[]) (λ_=>[]) l (C.vs c):=d;rw[b.pin c o];refine d.uB (λt a e=>?_) (λid r=>(Ky p id r).elim);have q:C.I0 a\/C.B a:=nP e;obtain⟨aB,u⟩:=f.1 a q;refine⟨?_,ap3 (b.frame a aB u)⟩;cases t
  ·exact b.i0 a e
  exact e.imp (b.i0 a) id
 exact b.tmp c
def J.kg {d:bp (X×ao)} (k:qs C d) {c:cx} {a:aR} {b:b8->aR->Prop} (f:J E C c ⟨d++a.g,a.h⟩ b):J E C c a b:=
 λe l i j=>f e l (i.kg k) j
def um (a:bp (X×ao)):amu->bv (bp (X×ao))
 |[]=>Y []
 |k::c=>match gt a k with
  |.val g f=>(um a c).map λb=>(k,.val g f)::b
  |.eG e d=>bif d.all BD then(um a c).map λb=>(k,.eG e d)::b else br
  |_=>br
theorem Kp {h:bp (X×ao)}:∀{g:amu} {d:bp (X×ao)},um h g=Y d->∀b∈d,b.1∈g/\Kx b.2=bt/\gt h b.1=b.2
 |[],d,c,b,a=>by cases c;cases a
 |k::g,d,c,b,a=>by
  simp only[um] at c;split at c
  ·rename_i q p f;obtain⟨n,e,rfl⟩:=fQ.1 c;rcases fH.1 a with rfl|a
   ·exact⟨jQ ..,bq,f⟩
   obtain⟨j,l⟩:=Kp e b a;grind
  ·rename_i o m f;cases i:m.all BD with
   |false=>grind
   |true=>
   rw[i] at c;obtain⟨n,e,rfl⟩:=fQ.1 c;rcases fH.1 a with rfl|a
   ·exact⟨jQ ..,i,f⟩
   obtain⟨j,l⟩:=Kp e b a;grind
  grind
theorem J.keep {K:cx} {H:bp (X×ao)} (r:qs C S) (an:um i.g f=Y H) (l:∀k:fg,k.n=C.n->k.pin=f++C.pin->qs k (H++S)->(∀t,vq C t->vq k t)->(lY E C.I0 C.w0->lY E k.I0 k.w0)->J E k K i z):J E C K i z:=by
 rintro u I ⟨y,M,A,b⟩ V
 let k:fg:={I0:=y,B:=C.B,F0:=λa=>∃id d,ax i.h id=Y d/\a∈A id,w0:=I,n:=C.n,pin:=f++C.pin,vs:=λq=>u.tmps.getD q bY}
 have T:cW k i u.tmps I y M A:=
  {n:=b.n,i0:=λ_ l=>l,i1:=λ_ l=>.inl l,ib:=b.ib,tree:=λid d j=>⟨(b.tree id d j).1,(b.tree id d j).2.1,λa c=>⟨((b.tree id d j).2.2 a c).1,((b.tree id d j).2.2 a c).2.1,((b.tree id d j).2.2 a c).2.2.1,.inr ⟨id,d,j,c⟩⟩⟩,dis:=b.dis,tmp:=b.tmp,frame:=λ_ _ _=>rfl,evo:=λ_ _=>.refl _ _,size:=bf _,os:=rfl,tape:=rfl,output:=rfl,pin:=λq _=>rfl}
 have am:qs k (H++S):=by
  refine⟨λa c=>⟨b.ib a c,?_⟩,λw p=>?_⟩
  ·rintro⟨id,d,j,U⟩;obtain⟨aB,x,_⟩:=(b.tree id d j).2.2 a U;grind
  rcases hl.1 p with p|p
  ·obtain⟨m,o,D⟩:=Kp an w p;refine⟨hl.2 (.inl m),o,?_⟩;have:=b.tmp w.1;rw[D] at this;exact this.uB (λL a s=>⟨s,cu _ _⟩) (λid F=>(Ky o id F).elim)
  obtain⟨m,o,D⟩:=r.2 w p;refine⟨hl.2 (.inr m),o,?_⟩;show c0 _ _ _ _ _ _ (u.tmps.getD w.1 bY);rw[b.pin _ m];refine D.uB (λL a s=>?_) (λid F=>(Ky o id F).elim);obtain⟨aB,x⟩:=r.1 a (nP s);refine⟨?_,ap3 (b.frame a aB x)⟩;cases L
  ·exact b.i0 a s
  exact s.imp (b.i0 a) id
 have av:∀t,vq C t->vq k t:=by
  rintro(_|⟨q,dg,ds⟩) ap
  ·trivial
  obtain⟨N,O,a,a0,cv,ce,cS,ci,d0,co⟩:=ap;refine⟨kB _ N,λv G=>kB _ (O v G),a,a0,cv,(b.pin q N).trans ce,jS cS b.size,?_,?_,?_⟩
  ·rintro⟨id,d,j,c⟩;rcases((b.tree id d j).2.2 a c).2.2.2 with m|m
   ·omega
   grind
  ·have c:=b.frame a cS ci;grind [block,anR]
  rw[co];exact iY λv G=>(b.pin v (O v G)).symm
 refine wp_mono (l k bq rfl am av (λR=>b.glob r.1 R) u I ⟨y,M,A,T⟩ V) ?_;rintro c2 c1 d1 ⟨cs,p,⟨P,bx,Q,e⟩,ad⟩;have dl:∀a,k.F0 a->C.w0.heap.size<=a\/C.F0 a:=(by rintro a ⟨id,d,j,c⟩;exact((b.tree id d j).2.2 a c).2.2.2);refine⟨cs,p,⟨P,bx,Q,?_⟩,ad⟩;refine{n:=e.n,i0:=λa c=>e.i0 a (b.i0 a c),i1:=λa c=>?_,ib:=e.ib,tree:=λid d j=>?_,dis:=e.dis,tmp:=e.tmp,frame:=λa m o=>?_,evo:=λa c=>(b.evo a c).trans (e.evo a (jS c b.size)),size:=eE b.size e.size,os:=e.os.trans b.os,tape:=e.tape.trans b.tape,output:=e.output.trans b.output,pin:=λq r=>?_}
 ·rcases e.i1 a c with l|l|l
  ·exact b.i1 a l
  ·exact .inr (.inl (eE b.size l))
  grind
 ·obtain⟨aB,x,a3⟩:=e.tree id d j;refine⟨aB,x,λa c=>?_⟩;obtain⟨a4,bl,bs,aY⟩:=a3 a c;refine⟨a4,bl,bs,?_⟩;rcases aY with l|l
  ·exact .inl (eE b.size l)
  grind
 ·refine(e.frame a (jS m b.size) ?_).trans (b.frame a m o);grind
 rw[e.pin q (hl.2 (.inr r))];exact b.pin q r
end
end
structure cP where
 d:bv (X×ao)
 S:amu
 keep:bp (X×bp a6)
 put:bp (X×aI)
variable{q:cP}
def ou (a:amu) (c:bp (X×bp a6)) (b:bp (X×ao)):bp (X×ao):=match a with
 |[]=>b
 |_=>amO a c b
def sn (a:amu) (b:bp (X×aI)):bp (X×aI):=match a with
 |[]=>b
 |_=>del a b
def cP.app (a:cP) (b:aR):aR:=⟨match a.d with
 |some c=>c::ou a.S a.keep b.g
 |none=>ou a.S a.keep b.g,a.put++sn a.S b.h⟩
theorem ZO (b:bp (X×bp a6)) (a:ao):fU [] b a=a:=by
 have c:∀a,fv [] b a=a:=λa=>(by have:(a.ids.any λd=>e6 d [])=bu:=(by grind [ap4,e6]);simp only[fv,amK,this,ap5,bQ]);cases a with
 |fx e=>grind [amU,ap6,fU]
 |_=>exact c _
theorem ZT (c:bp (X×bp a6)):∀b:bp (X×ao),amO [] c b=b
 |[]=>rfl
 |(k,a)::b=>by simp_all [hA,ZO,amO]
theorem XA:∀a:bp (X×aI),del [] a=a
 |[]=>rfl
 |x::a=>by simp_all [nD,ay,e6,del]
theorem uo (a:amu) (c:bp (X×bp a6)) (b:bp (X×ao)):ou a c b=amO a c b:=by
 cases a
 ·exact(ZT c b).symm
 rfl
theorem yl (a:amu) (b:bp (X×aI)):sn a b=del a b:=by
 cases a
 ·exact(XA b).symm
 rfl
def sV {k:Type} (tt:bp (bH×ak)) (f:bp (X×aI)) (m:bH) (q v:ao) (e:cP->bv k):bv k:=
 match sJ f q with
 |none=>br
 |some (
  id,p)=>match ax f id,ax tt m with
  |some a,Y o=>match fE a.1 p with
   |none=>br
   |some b=>bif bg o b then match v with
    |.ref c g=>match ax f c with
     |some l=>bif bL id c then br else(ip l.1 l.2 g b).bind λh=>(nq a.1 a.2 p b h).bind λd=>e ⟨br,[id,c],[(id,p)],[(id,⟨a.1,d⟩)]⟩
     |none=>br
    |.app c g i j n=>match il (τ:=.osl i) b j with
     |some _=>bif bL c id&&mP g p then(ip a.1 a.2 p (.osl i)).bind λr=>(nq a.1 a.2 p (.osl i) (r++j)).bind λd=>e ⟨br,id::n,[(id,p)],[(id,⟨a.1,d⟩)]⟩ else br
     |none=>br
    |v=>match coe b v with
     |some h=>(nq a.1 a.2 p b h).bind λd=>e ⟨br,[id],[(id,p)],[(id,⟨a.1,d⟩)]⟩
     |none=>br
   else br
  |_,_=>br
theorem ahs {q:b} {n:cP->bv b} {tt:bp (bH×ak)} (a:sV tt i.h c t d n=Y q) (k:∀o,n o=Y q->u (o.app i)):(Hb tt i c t d).K u:=by
 unfold sV at a;unfold Hb;split at a
 ·cases a
 rename_i id A v;rw[v];simp only;split at a
 case h_2=>cases a
 rename_i F B w r;obtain⟨O,M⟩:=F;rw[w,r];simp only at a|-;split at a
 ·cases a
 rename_i D z;rw[z];simp only;cases s:bg B D with
 |false=>grind
 |true=>
 rw[s] at a;simp only[bI] at a|-;split at a
 ·rename_i l p;split at a
  case h_2=>cases a
  rename_i E x;obtain⟨P,J⟩:=E;cases e:bL id l with
  |true=>grind
  |false=>
  rw[e] at a;obtain⟨m,f,a⟩:=e3.1 a;obtain⟨j,g,a⟩:=e3.1 a;simp only[x,e,bQ];exact⟨(m,j),⟨jo f,nV g⟩,k _ a⟩
 ·rename_i l p N L I;split at a
  case h_2=>cases a
  rename_i m f;cases kY f;cases e:(bL l id&&mP p A) with
  |false=>grind
  |true=>
  rw[e] at a;simp only[cJ] at e;obtain⟨C,y,a⟩:=e3.1 a;obtain⟨j,g,a⟩:=e3.1 a;simp only[anS];exact⟨(C,j),⟨fJ e.1,mP.ok e.2,jo y,nV g⟩,k _ a⟩
 rename_i d G H;split at a
 case h_2=>cases a
 rename_i m f;obtain⟨j,g,a⟩:=e3.1 a;split
 ·grind
 ·grind
 rw[f];exact⟨j,nV g,k _ a⟩
def lX (e:bp (X×aI)) (a:ak) (i:ao):bv (bp a.den):=
 match i with
 |.val (.bc _ h) d=>il (τ:=.osl h) (.osl a) d
 |.eI (.slice br 0 0)=>Y []
 |.ref id c=>match ax e id with
  |some b=>bif a.pure then ip b.1 b.2 c (.osl a) else br
  |none=>br
 |.view id c g f=>match ax e id with
  |some b=>bif a.pure then(ip b.1 b.2 c (.osl a)).bind λd=>Y ((d.take f).drop g) else br
  |none=>br
 |_=>br
def mG.HG {c:ak} (e:mG c) (b:bp c.den):Prop:=
 match e with
 |.ff f=>f=b
 |.part _ g d=>∃a,g a/\d a=b
 |.bad=>b7
theorem CP {f:bp k.den} (a:lX e k d=Y f):(s6 e k d).HG f:=by
 unfold lX at a;unfold s6;split at a
 ·rename_i p q h;cases kY a;simp only[anS];rfl
 ·cases a;rfl
 ·rename_i id j;split at a
  case h_2=>cases a
  rename_i g c;obtain⟨m,l⟩:=g;simp only[c];cases b:k.pure with
  |false=>grind
  |true=>rw[b] at a;exact⟨f,jo a,bq⟩
 ·rename_i id j o n;split at a
  case h_2=>cases a
  rename_i g c;obtain⟨m,l⟩:=g;simp only[c];cases b:k.pure with
  |false=>grind
  |true=>
   rw[b] at a;obtain⟨h,i,a⟩:=e3.1 a;cases a;exact⟨h,jo i,bq⟩
 grind
def mG.HG.to {d:ak} {c:mG d} {a:bp d.den} (b:c.HG a) {g:X->Prop} {f:bp d.den->aR} {e:aR->Prop} (h:g a.length) (i:e (f a)):(c.to g f).K e:=by
 cases c with
 |ff l=>obtain rfl:l=a:=b;exact⟨(),h,i⟩
 |part n o m=>obtain⟨k,j,rfl⟩:=b;exact⟨k,⟨j,h⟩,i⟩
 |bad=>exact b.elim
def pW {n:Type} (tt:bp (bH×ak)) (p:bp (X×ak)) (d:bp (X×aI)) (b:X) (o:bH) (q g:ao) (f:cP->bv n):bv n:=
 match hf tt o with
 |none=>br
 |some i=>
  match q with
  |.ref id []=>match ax d id with
   |some ⟨.osl a,e⟩=>bif bg i a&&b5 a.size 1300 then
    match a.pure with
    |true=>(lX d a g).bind λc=>(c3 (e.length+c.length)).bind λ_=>f ⟨Y (b,.ref b []),[id,b],[],[(b,⟨.osl a,e++c⟩)]⟩
    |false=>match g with
     |.ref k []=>match ax d k with
      |some r=>match il (.osl a) r.2 with
       |some c=>bif bL id k then br else(c3 (e.length+cE (α:=a.den) c)).bind λ_=>f ⟨Y (b,.ref b []),[id,k,b],[],[(b,⟨.osl a,List.append (α:=a.den) e c⟩)]⟩
       |none=>br
      |none=>br
     |_=>br
    else br
   |_=>br
  |.ref id h=>match ax d id,ax d b with
   |some j,br=>match fE j.1 h with
    |some (.osl a)=>bif bg i a&&b5 a.size 1300&&a.lr then
     (ip j.1 j.2 h (.osl a)).bind λe=>(lX d a g).bind λc=>(c3 (cE (α:=a.den) e+c.length)).bind λ_=>
      f ⟨Y (b,.app id h a c [b]),[id],[(id,h),(id,[])],[(b,⟨.eO,()⟩),(id,j)]⟩
     else br
    |_=>br
   |_,_=>br
  |.view id [] m l=>match ax d id with
   |some ⟨.osl a,e⟩=>bif bg i a&&b5 a.size 1300 then
    (lX d a g).bind λc=>(c3 (cE (α:=a.den) ((e.take l).drop m)+c.length)).bind λ_=>f ⟨Y (b,.ref b []),[id,b],[],[(b,⟨.osl a,(e.take l).drop m++c⟩)]⟩
    else br
   |_=>br
  |.eI (.slice br 0 0)=>match ax p b with
   |some (.osl a)=>bif bg i a&&b5 a.size 1300 then
    (lX d a g).bind λc=>(c3 c.length).bind λ_=>f ⟨Y (b,.ref b []),[b],[],[(b,⟨.osl a,c⟩)]⟩
    else br
   |_=>br
  |_=>br
theorem Wd {A:b} {w:cP->bv b} {tt:bp (bH×ak)} (e:pW tt l i.h a c d t w=Y A) (m:∀x,w x=Y A->u (x.app i)):(Dk tt l i a c d t).K u:=by
 unfold pW at e;unfold Dk;split at e
 ·cases e
 rename_i s F;rw[F];simp only;split at e
 ·rename_i id;simp only;split at e
  case h_2=>cases e
  rename_i j v n;rw[n];simp only;cases k:(bg s j&&b5 j.size 1300) with
  |false=>grind
  |true=>
  rw[k] at e;simp only[bI] at e|-;split at e
  ·rename_i q;rw[q];obtain⟨p,f,e⟩:=e3.1 e;obtain⟨_,g,e⟩:=e3.1 e;exact(CP f).to (yL g) (m _ e)
  rename_i q;rw[q];split at e
  case h_2=>cases e
  rename_i H;split at e
  case h_2=>cases e
  rename_i M E;obtain⟨V,R⟩:=M;split at e
  case h_2=>cases e
  rename_i p f;cases kY f;cases y:bL id H with
  |true=>grind
  |false=>
  rw[y] at e;obtain⟨_,g,e⟩:=e3.1 e;simp only[E,anS,y,bQ];exact⟨(),yL g,m _ e⟩
 ·rename_i id z q;split at e
  case h_2=>cases e
  rename_i L n D;obtain⟨U,S⟩:=L;simp only at e;split at e
  case h_2=>cases e
  rename_i j G;cases k:(bg s j&&b5 j.size 1300&&j.lr) with
  |false=>grind
  |true=>
  rw[k] at e;obtain⟨v,r,e⟩:=e3.1 e;obtain⟨p,f,e⟩:=e3.1 e;obtain⟨_,g,e⟩:=e3.1 e;have g:=yL g;have f:=CP f;have r:=jo r;cases z with
  |nil=>grind
  |cons Q z=>
  simp only[n,D,G,k,bI];split
  ·rename_i J o;rw[o] at f;obtain rfl:J=p:=f;exact⟨v,⟨r,g⟩,m _ e⟩
  ·rename_i T ad N o;rw[o] at f;obtain⟨I,B,rfl⟩:=f;exact⟨(v,I),⟨r,B,g⟩,m _ e⟩
  rename_i o;rw[o] at f;exact f.elim
 ·rename_i id P O;simp only;split at e
  case h_2=>cases e
  rename_i j v n;rw[n];simp only;cases k:(bg s j&&b5 j.size 1300) with
  |false=>grind
  |true=>
  rw[k] at e;simp only[bI] at e|-;obtain⟨p,f,e⟩:=e3.1 e;obtain⟨_,g,e⟩:=e3.1 e;exact(CP f).to (yL g) (m _ e)
 ·simp only;split at e
  case h_2=>cases e
  rename_i j C;rw[C];simp only;cases k:(bg s j&&b5 j.size 1300) with
  |false=>grind
  |true=>
  rw[k] at e;simp only[bI] at e|-;obtain⟨p,f,e⟩:=e3.1 e;obtain⟨_,g,e⟩:=e3.1 e;exact(CP f).to (yL g) (m _ e)
 grind
def qT (d:bp (X×ak)) (c:bp (X×aI)) (a:X) (h:ao):bv cP:=
 match h with
 |.ref id []=>match ax c id with
  |some b=>Y ⟨Y (a,.ref a []),[id,a],[],[(a,b)]⟩
  |none=>br
 |.ref id g=>bif bL id a then br else Y ⟨Y (a,.ref id g),[a],[],[]⟩
 |.view id [] f e=>match ax c id with
  |some ⟨.osl b,i⟩=>Y ⟨Y (a,.ref a []),[id,a],[],[(a,⟨.osl b,(i.take e).drop f⟩)]⟩
  |_=>br
 |.eI (.slice br 0 0)=>match ax d a with
  |some (.osl b)=>Y ⟨Y (a,.ref a []),[a],[],[(a,⟨.osl b,[]⟩)]⟩
  |_=>br
 |_=>br
theorem Wo (b:qT l i.h a d=Y q) (e:u (q.app i)):(Dm l i a d).K u:=by
 unfold qT at b;unfold Dm;split at b
 ·split at b
  ·rename_i j c;cases b;simp only[c];exact e
  grind
 ·rename_i id g k;cases f:bL id a with
  |true=>grind
  |false=>
  rw[f] at b;cases b;cases g with
  |nil=>grind
  |cons m g=>simp only[f,bQ];exact e
 ·split at b
  ·rename_i j n c;cases b;simp only[c];exact e
  grind
 ·split at b
  ·rename_i j c;cases b;simp only[c];exact e
  grind
 grind
section
section
variable {E:fP} {C:fg} {st:aR} {a:Act} {w w':bF} {I:X->Prop} {rt:X->amo} {fp:X->amu} {o:bU} {Q:aR->Prop}
def fi.own {S:amu} {t:aI} {cs:amo} {f:amu} {v:Value} {next:Act->bF->Prop} {u:b8->Act->bF->Prop} (A:o.dst=Y m) (F:C.ok m) (l:cW C st a.tmps w I rt fp) (J:∀r k w',Q r->k.defers=a.defers->g0 C r k.tmps w'->next k w') (D:m∈S\/ax st.h m=br) (M:(bP a.eval o).run E.P w=.ok (.value v) w') (c:hL w w') (N:v=c9 t.1 cs) (L:aW (bi I C.B) w' t.1 cs t.2 f) (G:f.Nodup) (i:∀b∈f,(w.heap.size<=b/\b<w'.heap.size)\/∃q∈S,∃R,ax st.h q=Y R/\b∈fp q) (K:Q ⟨(m,.ref m [])::amO S [] st.g,(m,t)::del S st.h⟩):o.wp E.P a w next u:=by
 have j:=l.eK (ob.one (st:=st) (C:=C) (rt:=rt) (w':=w') (I':=I) (S:=S) (d:=m) (t:=t) (cs:=cs) (f:=f) D c.size c.os c.tape c.output (λb i _=>c.heap b i) (λb i=>(ap3 (c.heap b i)).2) (λ_ e=>e) (λ_ e=>.inl e) L G (λb z=>by
  rcases i b z with⟨x,y⟩|⟨p,H,s,j,n⟩
  ·exact⟨λe=>by have:=l.ib b (.inl e);omega,y,.inl x⟩
  obtain⟨aB,T,O,bj⟩:=(l.tree p s j).2.2 b n;exact⟨aB,jS O c.size,.inr ⟨p,H,s,j,n⟩⟩))
 unfold amH;rw[M];show next (a.put o.dst v) w'
 rw[A];refine J _ _ _ K bq ⟨_,_,_,j.put F (av:=.ref m []) ?_⟩;rw[N];refine .ref (t:=t) (loc:=br) (by rw[lp,eJ,ay bq];rfl) ?_;rw[Gd];exact aoa
def y0 (e:bp (X×aI)) (a:ak):ao->bv (aI×amu)
 |.val d b=>bif bg a d then Y (⟨d,b⟩,[]) else br
 |.eI f=>match jm a f.cells.toList with
  |some b=>Y (⟨a,b⟩,[])
  |none=>br
 |.ref id []=>match ax e id with
  |some c=>bif bg a c.1 then Y (c,[id]) else br
  |none=>br
 |_=>br
theorem Sv (l:∀id t,ax e id=Y t->aW T w t.1 (rt id) t.2 (fp id)) {a:ak} (i:fD p a c) (h:c0 T w e rt fp d R) {t:aI} {ids:amu} (b:y0 e a d=Y (t,ids)):aW T w t.1 R.cells.toList t.2 (ids.map fp).flatten/\t.1.size=a.size/\∀id∈ids,∃o,ax e id=Y o:=by
 unfold y0 at b;split at b
 ·rename_i r q;cases f:bg a r with
  |false=>grind
  |true=>
   rw[f] at b;cases b;cases h with|val g=>
   rw[pp (i.lay f) g.len g.one];grind [ap7]
 ·rename_i u;split at b
  ·rename_i q s;cases b;cases h;grind [qX]
  grind
 ·rename_i id;split at b
  ·rename_i n j;cases f:bg a n.1 with
   |false=>grind
   |true=>
    rw[f] at b;cases b;cases h with|ref k m=>
    rw[j] at k;cases k;obtain⟨rfl,rfl,rfl⟩:=amY.1 m;have g:=l id _ j;rw[pp (i.lay f) g.len g.one];grind [amF,ap7]
  grind
 grind
def nQ (e:bp (X×aI)) (d:bO->ao) (g:bp (X×bO)):ak->X->bv (aI×amu)
 |.pr a h,f=>
  match(match mQ g f with
   |none=>match m0 a with
    |some i=>Y ((⟨a,i⟩:aI),([]:amu))
    |none=>br
   |some b=>y0 e a (d b)),nQ e d g h (f+1) with
  |some b,Y c=>Y (⟨.pr b.1.1 c.1.1,(b.1.2,c.1.2)⟩,b.2++c.2)
  |_,_=>br
 |.nil,_=>Y (⟨.nil,()⟩,[])
 |_,_=>br
theorem Q4 {p:b2} {g:eM->X->Prop} {b:bp (X×aI)} (z:∀id t,ax b id=Y t->aW g w t.1 (rt id) t.2 (fp id)) {m:bO->ao} {h:bO->Value} (y:∀c,c0 g w b rt fp (m c) (h c)) {parts:bp (X×bO)} {cells:amo}:∀{u:ak} {n:X} {r:bp amS} {off:X} {zs:amo} {t:aI} {ids:amu},je p u r off zs->nQ b m parts u n=Y (t,ids)->cells.length=off+u.size->(∀d k e,fS u d=Y (k,e)->(∀c,mQ parts (n+d)=Y c->(h c).cells.size=e.size/\(cells.drop (off+fO u d)).take e.size=(h c).cells.toList)/\(mQ parts (n+d)=br->(cells.drop (off+fO u d)).take e.size=(zs.drop (fO u d)).take e.size))->aW g w t.1 (cells.drop off) t.2 (ids.map fp).flatten/\t.1.size=u.size/\∀id∈ids,∃u,ax b id=Y u
 |.pr a q,n,E::O,off,zs,t,ids,o,f,A,i=>by
  simp only[nQ] at f;split at f
  case h_2=>cases f
  rename_i c l j C;cases f;obtain⟨F,s,G,⟨K,R,aB,M,N⟩,v⟩:=o;have x:=i 0 _ a bq;simp only[m4,fO,nC] at x;have H:aW g w c.1.1 ((cells.drop off).take a.size) c.1.2 (c.2.map fp).flatten/\c.1.1.size=a.size/\∀id∈c.2,∃u,ax b id=Y u:=by
   split at j
   ·rename_i J;split at j
    ·rename_i S D;cases j;obtain⟨L,T,P,Q,_,aY⟩:=w9 s D;grind
    grind
   grind [Sv]
  have I:=Q4 z y (parts:=parts) (cells:=cells) (u:=q) (n:=n+1) (off:=off+a.size) (zs:=zs.drop a.size) (t:=l.1) (ids:=l.2) v C (by grind [amW]) (by
   intro d k e B;have:=i (d+1) (.snd::k) e (by simp[fS,B]);grind [List.drop_drop,fO])
  refine⟨⟨(c.2.map fp).flatten,(l.2.map fp).flatten,ac,?_,?_⟩,by grind [amW],?_⟩
  ·grind
  ·simp_all
  grind
 |.nil,n,[],off,zs,t,ids,o,f,A,i=>by cases f;exact⟨⟨bq,by grind [List.drop_eq_nil_iff,amW]⟩,bq,ac⟩
 |.pr _ _,_,[],_,_,_,_,b,_,_,_|.nil,_,_::_,_,_,_,_,b,_,_,_=>b.elim
 |.int _,_,_,_,_,_,_,b,_,_,_|.bool,_,_,_,_,_,_,b,_,_,_|.str,_,_,_,_,_,_,b,_,_,_|.bc _ _,_,_,_,_,_,_,b,_,_,_|.osl _,_,_,_,_,_,_,b,_,_,_|.ptr _ _,_,_,_,_,_,_,b,_,_,_|.optr _,_,_,_,_,_,_,b,_,_,_|.st _,_,_,_,_,_,_,b,_,_,_|.eO,_,_,_,_,_,_,b,_,_,_=>by cases b
theorem Q5 {z:b2} {h:eM->X->Prop} {b:bp (X×aI)} (l:∀id t,ax b id=Y t->aW h w t.1 (rt id) t.2 (fp id)) {j:bO->ao} {i:bO->Value} (k:∀e,c0 h w b rt fp (j e) (i e)) {q:bp (X×bO)}:∀{u:ak} {n:X} {B:bp amS} {p:X} {y:amo} {t:aI} {ids:amu},je z u B p y->nQ b j q u n=Y (t,ids)->∀d s g,fS u d=Y (s,g)->∀e,mQ q (n+d)=Y e->(i e).cells.size=g.size
 |.pr a A,n,I::P,p,y,t,ids,E,f,d,s,g,c,e,m=>by
  simp only[nQ] at f;split at f
  case h_2=>cases f
  rename_i v x o G;obtain⟨J,C,K,⟨L,Q,aB,N,O⟩,D⟩:=E;cases d with
  |zero=>
   simp only[fS,e9,iN] at c;obtain⟨_,rfl⟩:=c;rw[m4] at m;rw[m] at o;obtain⟨H,M,_⟩:=Sv (t:=v.1) (ids:=v.2) l C (k e) o;have:=H.len;grind
  |succ d=>
   simp only[fS] at c;split at c
   ·rename_i r F;simp only[e9,iN] at c;obtain⟨_,rfl⟩:=c;exact Q5 l k (u:=A) (n:=n+1) (t:=x.1) (ids:=x.2) D G d r.1 r.2 F e (by rwa[(aa:n+1+d=n+(d+1))])
   grind
 |.pr _ _,_,[],_,_,_,_,b,_,_,_,_,_,_,_=>b.elim
 |.nil,_,_,_,_,_,_,_,_,_,_,_,c,_,_=>by cases c
 |.int _,_,_,_,_,_,_,b,_,_,_,_,_,_,_|.bool,_,_,_,_,_,_,b,_,_,_,_,_,_,_|.str,_,_,_,_,_,_,b,_,_,_,_,_,_,_|.bc _ _,_,_,_,_,_,_,b,_,_,_,_,_,_,_|.osl _,_,_,_,_,_,_,b,_,_,_,_,_,_,_|.ptr _ _,_,_,_,_,_,_,b,_,_,_,_,_,_,_|.optr _,_,_,_,_,_,_,b,_,_,_,_,_,_,_|.st _,_,_,_,_,_,_,b,_,_,_,_,_,_,_|.eO,_,_,_,_,_,_,b,_,_,_,_,_,_,_=>by cases b
theorem WJ (av:o.op=.build c s) {J:ak} (D:mg E.tt c=Y J) (ds:bg J k=bt\/J=k) (R:nj s.toList 0=bt) (A:∀d∈s.toList,cg d.1 (gY k)=bt) (O:∀e l b,fS k e=Y (l,b)->∀f,mQ s.toList e=Y f->(a.eval f).cells.size=b.size):∃h g p,je E.P k h 0 g/\(bP a.eval o).run E.P w=.ok (.value (.agg p)) w/\p.toList.length=k.size/\(∀e l b,fS k e=Y (l,b)->(∀f,mQ s.toList (0+e)=Y f->(a.eval f).cells.size=b.size/\(p.toList.drop (0+fO k e)).take b.size=(a.eval f).cells.toList)/\(mQ s.toList (0+e)=br->(p.toList.drop (0+fO k e)).take b.size=(g.drop (fO k e)).take b.size)):=by
 obtain⟨m,h,g,S,c1,T,U,q,c2⟩:∃m h g,E.P.info? c=some m/\m.size=k.size/\m.zero=some (.agg g)/\E.P.underlying c=some (.struct h)/\je E.P k h.toList 0 g.toList/\g.size=k.size:=by
  unfold mg at D;split at D
  ·rename_i d9 ad;cases D;obtain⟨_,m,h,g,aB,d1,_,bj,d2,d3,d4⟩:=E.ok c _ ad;grind [ap7,je.lay]
  grind
 have F:=run_places (P:=E.P) w k h.toList 0 g.toList q;simp only[l3] at F;generalize dl:((bK (gY k)).map λn=>(fO k n,match fS k n with|some d=>d.2.size|none=>0))=H at F;have v:∀n l b,fS k n=Y (l,b)->n<gY k->H.toArray[n]?=Y (fO k n,b.size):=ae;obtain⟨p,ce,d5,ci,aY⟩:=Br (λm=>H.toArray[m]?) (s.toList.map λd=>(d.1,a.eval d.2)) g (by
  intro d x;obtain⟨j,B,rfl⟩:=eT.1 x;have t:j.1<gY k:=ha (A j B);obtain⟨l,b,i⟩:=sH q j.1 t;refine⟨_,_,v _ _ _ i t,O _ _ _ i j.2 ?_,by simp_all [yr]⟩;grind [Kf]) (by
  rw[n6];refine(Kg R).imp_of_mem ?_;intro d I x a4 t bx co d0 d6 ar L;have z:d.1<gY k:=ha (A d x);have Q:I.1<gY k:=ha (A I a4);obtain⟨cs,cv,r⟩:=sH q d.1 z;obtain⟨d7,d8,N⟩:=sH q I.1 Q;rw[v _ _ _ r z] at ar;rw[v _ _ _ N Q] at L;cases ar;cases L;exact .inl (wg r N t))
 have bl:p.toList.length=k.size:=ae;refine⟨h.toList,g.toList,p,q,?_,bl,?_⟩
 ·have a3:(ao4 (λf=>(f.fst,a.eval f.snd)) s).toList=s.toList.map λd=>(d.1,a.eval d.2):=ac;have a0:(h.mapM λM=>do anQ (M.offset,<-anm M.type):Sem (bW es)).run E.P w=.ok H.toArray w:=by
   rw[apQ,Sem.run_map,F];rfl
  have G:(amN c).run E.P w=.ok (.agg g) w:=(by simp[amN,am1,S,T]);simp only[bP,av,Instr.build,b0,G,cd U,b4,a0,a3,Value.cells,ce];rfl
 intro e l b i;have am:e<gY k:=JR i;simp only[l3];have dg:=yr i;refine⟨λf C=>?_,λC=>?_⟩
 ·have an:=BJ C;have G:=O e l b i f C;refine⟨G,?_⟩;apply iJ;intro y;rcases c6 y b.size with u|u
  ·obtain⟨K,bs⟩:∃K,(a.eval f).cells[y]?=some K:=⟨_,CQ aa⟩;have:=aY (e,a.eval f) (eT.2 ⟨(e,f),an,bq⟩) _ _ (v _ _ _ i am) y K bs;grind
  grind
 apply iJ;intro y;rcases c6 y b.size with u|u
 ·rw[te u,te u,qA,qA];simp only[CR];refine ci _ ?_;intro d x bx co ar;obtain⟨j,B,rfl⟩:=eT.1 x;have ap:=KH C j B;have z:j.1<gY k:=ha (A j B);obtain⟨cs,cv,r⟩:=sH q j.1 z;rw[v _ _ _ r z] at ar;cases ar;rcases Nat.lt_or_gt_of_ne ap with t|V
  ·have:=wg r i t;omega
  have:=wg i r V;omega
 grind
def cW.JU {t:eB} (d:cW C st t w I rt fp):∀{a:amu},a.Nodup->(∀id∈a,∃b,ax st.h id=Y b)->(a.map fp).flatten.Nodup
 |[],_,_=>by simp
 |i::a,r,e=>by obtain⟨k,l⟩:=kS.1 r;obtain⟨b,f⟩:=e i ac;simp only[hA,my];refine jR.2 ⟨(d.tree i b f).2.1,cW.JU d l (λid x=>e id ae),λj m v o c=>?_⟩;subst c;obtain⟨y,q,n⟩:=mB.1 o;obtain⟨g,p,rfl⟩:=eT.1 q;obtain⟨u,s⟩:=e g ae;exact d.dis i g b u f s (λc=>k (c▸p)) j m n
theorem aaD (a:m∈(f.map fp).flatten):∃id∈f,m∈fp id:=by grind
def tC {k:Type} (tt:bp (bH×ak)) (m:bp (X×ak)) (e:bp (X×aI)) (h:bO->ao) (a:X) (l:bH) (c:bp (X×bO)) (g:cP->bv k):bv k:=
 match mg tt l with
 |none=>br
 |some f=>match ax m a with
  |some (.st j)=>bif bg f j&&(nj c 0&&c.all (λi=>cg i.1 (gY j))) then match ax e a,nQ e h c j 0 with
   |none,Y (b,d)=>bif kh d then g ⟨Y (a,.ref a []),d,[],[(a,⟨.st b.1,b.2⟩)]⟩ else br
   |_,_=>br
   else br
  |_=>bif nj c 0&&c.all (λi=>cg i.1 (gY f)) then match rf h c f 0 with
   |some b=>g ⟨Y (a,.val (.st b.1) b.2),[],[],[]⟩
   |none=>match ax e a,nQ e h c f 0 with
    |none,Y (b,d)=>bif kh d then g ⟨Y (a,.ref a []),d,[],[(a,⟨.st b.1,b.2⟩)]⟩ else br
    |_,_=>br
   else br
theorem N8 {F:b} {u:cP->bv b} (U:o.op=.build c s) (O:o.dst=Y m) (P:C.ok m) {r:ak} (y:mg E.tt c=Y r) (D:bg r k=bt\/r=k) (q:(nj s.toList 0&&s.toList.all (λp=>cg p.1 (gY k)))=bt) (i:(match ax st.h m,nQ st.h (aX st.g) s.toList k 0 with
  |none,Y (d,e)=>bif kh e then u ⟨Y (m,.ref m []),e,[],[(m,⟨.st d.1,d.2⟩)]⟩ else br
  |_,_=>br)=Y F)
 (V:∀v,u v=Y F->Q (v.app st)):fi E C o st Q:=by
 split at i
 case h_2=>cases i
 rename_i d e R n;cases A:kh e with
 |false=>grind
 |true=>
 rw[A] at i;simp only[cJ,hk] at q;obtain⟨H,J⟩:=q;rintro a w ⟨I,rt,fp,j⟩ next a3 T
 have z:∀id d,ax st.h id=Y d->aW (bi I C.B) w d.1 (rt id) d.2 (fp id):=λid d n=>(j.tree id d n).1;obtain⟨K,av,G,M,ad,bx,N⟩:=WJ (a:=a) (w:=w) U y D H J (by
  obtain⟨K,av,_,p⟩:=mg.ok y;intro an ap a0 am l bs;exact Q5 z (λl=>j.aX l) (D.elim (λi=>je.lay i p) (λi=>i▸p)) n an ap a0 am l (by rwa[l3]))
 obtain⟨x,bl,L⟩:=Q4 z (λl=>j.aX l) (cells:=G.toList) M n aa N;rw[nC] at x;refine fi.own (S:=e) (t:=⟨.st d.1,d.2⟩) (cs:=G.toList) (f:=(e.map fp).flatten) O P j T (.inr R) ad (hL.refl w) rfl x (j.JU (kh.ok A) L) (λa4 q=>?_) ?_
 ·grind
 have:=V _ i;rw[show(cP.mk (Y (m,.ref m [])) e [] [(m,⟨.st d.1,d.2⟩)]).app st=⟨(m,.ref m [])::amO e [] st.g,(m,⟨.st d.1,d.2⟩)::del e st.h⟩ by
  show aR.mk ((m,_)::ou e [] st.g) ([_]++sn e st.h)=_;rw[uo,yl];rfl] at this
 omega
theorem Wz {t:b} {q:cP->bv b} (k:o.op=.build c s) (i:o.dst=Y m) (j:C.ok m) (a:tC E.tt l st.h (aX st.g) m c s.toList q=Y t) (n:∀r,q r=Y t->Q (r.app st)):fi E C o st Q:=by
 unfold tC at a;split at a
 ·cases a
 rename_i u e;split at a
 ·rename_i v x;cases d:(bg u v&&(nj s.toList 0&&s.toList.all (λp=>cg p.1 (gY v)))) with
  |false=>grind
  |true=>
  rw[d] at a;simp only[bI] at a;have f:=d;rw[cJ] at f;exact N8 k i j e (.inl f.1) f.2 a n
 cases d:(nj s.toList 0&&s.toList.all (λp=>cg p.1 (gY u))) with
 |false=>grind
 |true=>
 rw[d] at a;simp only[bI] at a;split at a
 ·rename_i y w;refine ano (an:=[]) i j ?_;rw[k];simp only[hp,Al,e,d,bI,w];exact n _ a
 exact N8 k i j e (.inr bq) d a n
def vz {i:Type} (tt:bp (bH×ak)) (f:bp (X×ak)) (g:bp (X×aI)) (a:X) (j:bH) (d:ao) (b:cP->bv i):bv i:=
 match ax tt j,ax g a with
 |some h,br=>match d with
  |.val e d=>bif bg h e then match ax f a with
   |some (.ptr .bm _)=>b ⟨Y (a,.val (.ptr .bm e) (Y d)),[],[],[]⟩
   |_=>b ⟨Y (a,.ref a []),[],[],[(a,⟨.optr e,d⟩)]⟩
   else br
  |.ref id []=>match ax g id with
   |some c=>bif bg h c.1 then match ax f a with
    |some (.ptr .bm _)=>bif py c.1 then b ⟨Y (a,.hY (.ref id [])),[],[],[]⟩ else br
    |_=>b ⟨Y (a,.ref a []),[id],[],[(a,⟨.optr c.1,c.2⟩)]⟩
    else br
   |none=>br
  |_=>br
 |_,_=>br
theorem WC {dl:b} {ce:cP->bv b} (O:o.op=.box c n) (M:o.dst=Y m) (N:C.ok m) (e:vz E.tt l st.h m c (aX st.g n) ce=Y dl) (P:∀cv,ce cv=Y dl->Q (cv.app st)):fi E C o st Q:=by
 unfold vz at e;split at e
 case h_2=>cases e
 rename_i r L c2;split at e
 ·rename_i V d0 z;cases i:bg r V with
  |false=>grind
  |true=>
  rw[i] at e;simp only[bI] at e;split at e
  ·rintro a w ⟨I,rt,fp,j⟩ next ci F
   have p:=j.aX n;rw[z] at p;have A:=(E.ok c r L).lay i;generalize H:a.eval n=K at p;cases p with|val U=>
   rename_i cs;have u:∀s d,bi I C.B s d->dm w (w.alloc (.cells cs.toArray c)) d:=λs d i=>.of_heap ((anp w _).heap d (j.ib d (nP i)));have bl:Yields E C st a w I rt fp o (λy J=>Q ⟨(m,y)::st.g,J++st.h⟩):=by
    refine⟨.pointer (Y ⟨w.heap.size,0,br⟩),w.alloc (.cells cs.toArray c),λd=>I d\/d=w.heap.size,λ_=>[],λ_=>[],.val (.ptr .bm V) (Y d0),[],?_,anp w _,λ_ e=>.inl e,?_,.nil,?_,P _ e⟩
    ·simp[bP,O,H,ao3,newVar,ang,pp A U.len U.one]
    ·rintro d (e|rfl)
     ·grind
     simp_all
    refine .val (τ:=.ptr .bm V) (x:=Y d0) (cs:=[.pointer (Y ⟨w.heap.size,0,br⟩)]) ⟨bq,w.heap.size,0,cs,bq,.inr bq,U.len,ap8 (λd4 K d2=>by grind),?_⟩;refine U.mono (λs d i=>⟨?_,u s d i⟩) ac;cases s
    ·exact .inl i
    exact i.imp .inl (λe=>e)
   exact bl.wp j M N (λy J ad w' a0 am a3=>F _ ad w' a0 am a3)
  refine ano (an:=[]) M N ?_;rw[O];simp only[hp,Am,L,c2,z,i,bI];exact P _ e
 ·rename_i id z;split at e
  case h_2=>cases e
  rename_i k R;cases i:bg r k.1 with
  |false=>grind
  |true=>
  rw[i] at e;simp only[bI] at e;split at e
  ·cases a4:py k.1 with
   |false=>rw[a4] at e;cases e
   |true=>
   rw[a4,bI] at e;rintro a w ⟨I,rt,fp,j⟩ next ci F
   have p:=j.aX n;rw[z] at p;obtain⟨q,ds,bx⟩:=j.tree id k R;have A:=(E.ok c r L).lay i;generalize H:a.eval n=K at p;have d3:=p;cases p with|ref G av=>
   rw[R] at G;cases G;obtain⟨rfl,rfl,rfl⟩:=amY.1 av;obtain⟨ar,d1⟩:=p5.one a4;have dg:=q.len;rw[ar] at dg;obtain⟨co,c1⟩:=qB.1 dg;have u:∀d,d<w.heap.size->dm w (w.alloc (.cells (rt id).toArray c)) d:=λd i=>.of_heap ((anp w _).heap d i);have bl:Yields E C st a w I rt fp o (λy J=>Q ⟨(m,y)::st.g,J++st.h⟩):=by
    refine⟨.pointer (Y ⟨w.heap.size,0,br⟩),w.alloc (.cells (rt id).toArray c),λd=>I d\/d=w.heap.size,rt,fp,.hY (.ref id []),[],?_,anp w _,λ_ e=>.inl e,?_,.nil,?_,P _ e⟩
    ·simp[bP,O,H,ao3,newVar,ang,pp A q.len q.one]
    ·rintro d (e|rfl)
     ·exact .inl e
     exact .inr ⟨bf _,ac⟩
    have ap:c0 (bi (λd=>I d\/d=w.heap.size) C.B) (w.alloc (.cells (rt id).toArray c)) ([]++st.h) (fC [] rt rt) (fC [] fp fp) (.ref id []) (c9 k.1 (rt id)):=by
     refine d3.mono (λs d D=>⟨?_,u d (j.ib d (nP D))⟩) (λbs r T=>⟨(j.tree bs r T).1,λd i=>u d ((j.tree bs r T).2.2 d i).2.2.1⟩) (λbs r T=>⟨T,bq,bq⟩);cases s
     ·exact .inl D
     exact D.imp .inl (λe=>e)
    rw[c1] at ap|-;rw[d1] at ap;refine .hY (v:=co) (.inr bq) ?_ (q.one co (by rw[c1];simp)) ap;rw[World.cell?_alloc_new];rfl
   exact bl.wp j M N (λy J ad w' a0 am a3=>F _ ad w' a0 am a3)
  rintro a w ⟨I,rt,fp,j⟩ next ci F
  have p:=j.aX n;rw[z] at p;obtain⟨q,ds,bx⟩:=j.tree id k R;have A:=(E.ok c r L).lay i;generalize H:a.eval n=K at p;cases p with|ref G av=>
  rw[R] at G;cases G;obtain⟨rfl,rfl,rfl⟩:=amY.1 av;have u:∀d,d<w.heap.size->dm w (w.alloc (.cells (rt id).toArray c)) d:=λd i=>.of_heap ((anp w _).heap d i);have d5:aW (bi I C.B) (w.alloc (.cells (rt id).toArray c)) k.1 (rt id) k.2 (fp id):=q.mono (λs d i=>⟨i,u d (j.ib d (nP i))⟩) (λd i=>u d (bx d i).2.2.1);refine fi.own (S:=[id]) (t:=⟨.optr k.1,k.2⟩) (cs:=[.pointer (Y ⟨w.heap.size,0,br⟩)]) (f:=w.heap.size::fp id) (v:=.pointer (Y ⟨w.heap.size,0,br⟩)) (w':=w.alloc (.cells (rt id).toArray c)) M N j F (.inr c2) ?_ (anp w _) rfl ⟨w.heap.size,0,fp id,rt id,bq,bq,q.len,ap8 (λd4 K d2=>by grind),ap9 (by simp[q.len]),d5⟩ (kS.2 ⟨λD=>rY _ (bx _ D).2.2.1,ds⟩) ?_ ?_
  ·simp[bP,O,H,ao3,newVar,ang,pp A q.len q.one]
  ·intro d i;rcases fH.1 i with rfl|i
   ·simp_all
   grind
  have:=P _ e;rw[show(cP.mk (Y (m,.ref m [])) [id] [] [(m,⟨.optr k.1,k.2⟩)]).app st=⟨(m,.ref m [])::amO [id] [] st.g,(m,⟨.optr k.1,k.2⟩)::del [id] st.h⟩ from rfl] at this;omega
 grind
def Lc (a:ak) (b:ao):bv a.den:=match a with
 |.osl _=>match b with
  |.eI (.slice br 0 0)=>Y []
  |_=>br
 |_=>br
def aa7 {w:bF} {rt:X->amo} {fp:X->amu} (c:c0 T w e rt fp d R) {b:k.den} (a:Lc k d=Y b):aW T w k R.cells.toList b []:=by
 unfold Lc at a;split at a
 ·split at a
  ·cases a;cases c;exact⟨br,0,bq,.inl ⟨bq,bq,bq,bq⟩⟩
  cases a
 cases a
def vF (c:bp (X×aI)) (b:ak) (x:ao):bv (b.den×amu):=
 match x with
 |.ref id []=>match ax c id with
  |some d=>match il b d.2 with
   |some a=>Y (a,[id])
   |none=>br
  |none=>br
 |x=>match coe b x with
  |some a=>Y (a,[])
  |none=>(Lc b x).map λa=>(a,[])
def vG (b:bp (X×aI)) (a:ak):bp ao->bv (bp a.den×ey)
 |[]=>Y ([],[])
 |x::e=>match vF b a x,vG b a e with
  |some d,Y c=>Y (d.1::c.1,d.2::c.2)
  |_,_=>br
theorem Xb (o:∀id k,ax e id=Y k->aW T w k.1 (rt id) k.2 (fp id)) (m:fD E.P k c) (h:c0 T w e rt fp d R) {j:k.den} (a:vF e k d=Y (j,f)):aW T w k R.cells.toList j (f.map fp).flatten/\∀id∈f,∃s,ax e id=Y s:=by
 unfold vF at a;split at a
 ·rename_i id;split at a
  case h_2=>cases a
  rename_i t b;split at a
  case h_2=>cases a
  rename_i u q;cases a;obtain⟨x,d⟩:=t;have n:=kY q;cases n;cases h with|ref g p=>
  rw[b] at g;cases g;obtain⟨rfl,rfl,rfl⟩:=amY.1 p;have i:=o id _ b;rw[pp m i.len i.one];grind
 split at a
 ·grind [IJ]
 obtain⟨v,r,l⟩:=fQ.1 a;cases l;exact⟨aa7 h r,ac⟩
theorem OA {e:bp (X×aI)} {c:ak}:∀{b:bp ao} {xs:bp c.den} {is:ey},vG e c b=Y (xs,is)->xs.length=b.length/\is.length=b.length/\∀(d:X) (h:c.den),xs[d]?=Y h->∃(y:ao) (f:amu),b[d]?=Y y/\is[d]?=Y f/\vF e c y=Y (h,f)
 |[],xs,is,a=>by cases a;grind
 |y::b,xs,is,a=>by
  simp only[vG] at a;split at a
  ·rename_i n g m i;cases a;obtain⟨j,k,l⟩:=OA (xs:=g.1) (is:=g.2) i;grind
  grind
def tE {i:Type} (tt:bp (bH×ak)) (k:bp (X×ak)) (f:bp (X×aI)) (e:bO->ao) (a:X) (j:bH) (g:X) (c:bp (X×bO)) (d:cP->bv i):bv i:=
 match hf tt j,ax f a with
 |some h,br=>
  match(match ax k a with|some (.osl t)=>t|_=>h) with
  |t=>bif bg h t&&b5 t.size 2000&&b5 g 1000&&wU c 0&&bL c.length g then
   match Aq t (c.map λb=>e b.2) with
   |some l=>d ⟨Y (a,.ref a []),[],[],[(a,⟨.osl t,l⟩)]⟩
   |none=>match vG f t (c.map λb=>e b.2) with
    |some b=>bif kh b.2.flatten then d ⟨Y (a,.ref a []),b.2.flatten,[],[(a,⟨.osl t,b.1⟩)]⟩ else br
    |none=>br
  else br
 |_,_=>br
theorem WG {d7:b} {bs:cP->bv b} {q:X} (dl:o.op=.buildSlice c m s) (cv:o.dst=Y q) (c1:C.ok q) (j:tE E.tt l st.h (aX st.g) q c m s.toList bs=Y d7) (L:∀O,bs O=Y d7->Q (O.app st)):fi E C o st Q:=by
 unfold tE at j;split at j
 case h_2=>cases j
 rename_i r co c2;generalize x:(match ax l q with|some (.osl d)=>d|_=>r)=d at j;simp only at j;cases i:(bg r d&&b5 d.size 2000&&b5 m 1000&&wU s.toList 0&&bL s.toList.length m) with
 |false=>grind
 |true=>
 rw[i] at j;simp only[bI] at j;split at j
 ·rename_i z d3;refine ano (an:=l) cv c1 ?_;rw[dl];simp only[hp,xP,co,c2];cases H:ax l q with
  |none=>
   rw[H] at x;simp only at x;subst x;simp only[i,bI,d3];exact L _ j
  |some k=>
   rw[H] at x;cases k<;>(simp only at x;subst x;simp only[i,bI,d3];exact L _ j)
 split at j
 case h_2=>cases j
 rename_i k d0;obtain⟨z,p⟩:=k;cases av:kh p.flatten with
 |false=>grind
 |true=>
 rw[av] at j;rintro a w ⟨I,rt,fp,D⟩ next f9 f3
 have fr:∀id d,ax st.h id=Y d->aW (bi I C.B) w d.1 (rt id) d.2 (fp id):=λid d x=>(D.tree id d x).1;simp only[cJ] at i;obtain⟨⟨⟨⟨ek,V⟩,ad⟩,N⟩,bx⟩:=i;have V:=ha V;have ad:=ha ad;have bx:s.toList.length=m:=fJ bx;obtain⟨d5,U,_,eq,ex⟩:=hf.ok co;have K:=ex.lay ek;obtain⟨a4,gc,d6,_⟩:=K.info;have gt:=K.pos;obtain⟨el,ce,ci⟩:=OA d0;simp only[eL] at el ce;have f6:z.length=m:=aa;have go:m*d.size<=16777216:=(by have:m*d.size<=1000*2000:=n8 ad V;omega);have am:∀(e:X) (k:X×bO),s.toList[e]?=Y k->∃(y:d.den) (u:amu),z[e]?=Y y/\p[e]?=Y u/\aW (bi I C.B) w d (a.eval k.2).cells.toList y (u.map fp).flatten/\∀id∈u,∃r,ax st.h id=Y r:=(by intro e k F;have fT:e<z.length:=ae;obtain⟨i2,u,ar,ge,R⟩:=ci e z[e] ac;rw[jv,F] at ar;simp only[jT,e9] at ar;subst ar;obtain⟨hr,hs⟩:=Xb fr K (D.aX k.2) R;grind);have ap:∀id∈p.flatten,∃r,ax st.h id=Y r:=by
  intro id T;obtain⟨M,H,gi⟩:=mB.1 T;obtain⟨e,F,rfl⟩:=hN.1 H;have G:s.toList[e]?=Y (s.toList[e]'(by omega)):=cH _
  grind
 obtain⟨d4,ft,fz⟩:∃hh:eB,(m*d.size=0->hh=#[])/\(m*d.size≠0->∃J,(amN U).run E.P w=.ok J w/\hh=J.cells):=by
  by_cases A:m*d.size=0
  ·simp_all
  obtain⟨J,_,f8⟩:=fD.Ka K;exact⟨J.cells,λj=>absurd j A,λ_=>⟨J,by simp[amN,am1,d6.info,f8 a4 d6.info],bq⟩⟩
 obtain⟨bl,d8,io,is,aY⟩:=Br (λa4=>Y (a4*d.size,d.size)) (s.toList.map λk=>(k.1,a.eval k.2)) ((Array.range (m*d.size)).map (d4[· %d4.size]!)) (by
  intro k L;obtain⟨ii,f4,rfl⟩:=eT.1 L;obtain⟨e,F,rfl⟩:=hN.1 f4;have G:s.toList[e]?=Y s.toList[e]:=ac;obtain⟨y,_,_,_,a3,_⟩:=am e _ G;have O:=sR N e _ G;have:(e+1)*d.size<=m*d.size:=hW _ aa;rw[la,iL] at this;refine⟨_,_,bq,by have:=a3.len;omega,?_⟩;grind) (by
  rw[iw];intro e M F H fT hw ix ic i0 ar R;simp only[pH,e9,iN] at ar R;simp only[eL] at F H;have em:=sR N e s.toList[e] ac;have f2:=sR N M s.toList[M] ac;obtain⟨rfl,rfl⟩:=ar;obtain⟨rfl,rfl⟩:=R;left;rw[em,f2];have:(0+e+1)*d.size<=(0+M)*d.size:=hW _ aa;grind)
 have hc:bl.size=m*d.size:=ae;have fl:∀n,n<w.heap.size->dm w (w.alloc (.cells bl U)) n:=λn i=>.of_heap ((anp w _).heap n i);have fn:(p.map λu=>(u.map fp).flatten).flatten=(p.flatten.map fp).flatten:=by
  clear am ap ci av j d0 ce
  induction p with
  |nil=>rfl
  |cons y M hi=>grind
 have f0:∀n∈(p.flatten.map fp).flatten,n<w.heap.size/\∃id∈p.flatten,∃r,ax st.h id=Y r/\n∈fp id:=(by intro n i;obtain⟨id,T,i⟩:=aaD i;obtain⟨r,a0⟩:=ap id T;exact⟨((D.tree id r a0).2.2 n i).2.2.1,id,T,r,a0,i⟩);refine fi.own (S:=p.flatten) (t:=⟨.osl d,z⟩) (cs:=[.slice (Y ⟨w.heap.size,0,br⟩) m m]) (f:=w.heap.size::(p.flatten.map fp).flatten) (v:=.slice (Y ⟨w.heap.size,0,br⟩) m m) (w':=w.alloc (.cells bl U)) cv c1 D f3 (.inr c2) ?_ (anp w _) rfl ?_ (kS.2 ⟨λf1=>rY _ (f0 _ f1).1,D.JU (kh.ok av) ap⟩) ?_ ?_
 ·have f5:=K.sizeOf w;have gs:¬(16777216<m*d.size):=aa;have ds:(ao4 (λy=>(y.fst,a.eval y.snd)) s).toList=s.toList.map λk=>(k.1,a.eval k.2):=ac;simp only[bP,dl,Instr.buildSlice,b0,cd eq,b4,f5];rw[aw aa];by_cases A:m*d.size=0
  ·rw[ay A];obtain rfl:=ft A;rw[ds];simp only[b0,cz,b4,d8,ang,newObj];rfl
  rw[aw A];obtain⟨J,f7,rfl⟩:=fz A;rw[ds];simp only[b0,cz,b4,f7,d8,ang,newObj];rfl
 ·refine⟨Y ⟨w.heap.size,0,br⟩,m,by rw[f6],.inr ⟨w.heap.size,0,p.map λu=>(u.map fp).flatten,bq,by rw[fn],ae,ae,ap9 aa,λe y gf a3 dg=>?_⟩⟩;have F:e<m:=ae;have G:s.toList[e]?=Y (s.toList[e]'(by omega)):=by simp
  obtain⟨i1,u,d2,fs,d1,a0⟩:=am e _ G;rw[a3] at d2;obtain rfl:=gn d2;rw[jv,fs] at dg;obtain rfl:=gn dg;refine⟨_,d1.len,ap8 (λd5 d9 gl=>?_),d1.mono (λhv n i=>⟨i,fl n (D.ib n (nP i))⟩) (λn i=>?_)⟩
  ·have:=aY (s.toList[e].1,a.eval s.toList[e].2) (eT.2 ⟨s.toList[e],cT _,bq⟩) _ _ rfl d5 d9 ae;have O:=sR N e _ G;grind
  grind
 ·intro n i;rcases fH.1 i with rfl|i
  ·exact .inl ⟨bf _,ac⟩
  grind
 have:=L _ j;rw[show(cP.mk (Y (q,.ref q [])) p.flatten [] [(q,⟨.osl d,z⟩)]).app st=⟨(q,.ref q [])::amO p.flatten [] st.g,(q,⟨.osl d,z⟩)::del p.flatten st.h⟩ by
  show aR.mk ((q,_)::ou _ [] st.g) ([_]++sn _ st.h)=_;rw[uo,yl];rfl] at this
 omega
end
end
section
def kv:ak->ak
 |.osl a=>.bc .bm (kv a)
 |.st a=>.st (kv a)
 |.pr b c=>.pr (kv b) (kv c)
 |.mp a=>.fd .bm a
 |τ=>τ
def sr:ak->bD
 |.osl a|.st a=>sr a
 |.pr b c=>sr b&&sr c
 |.optr _|.eO=>bu
 |_=>bt
def su:∀d:ak,(kv d).den=d.den
 |.osl c=>b9 bp (su c)
 |.st c=>su c
 |.pr a b=>by show((kv a).den×(kv b).den)=(a.den×b.den);rw[su a,su b]
 |.int _|.bool|.str|.bc _ _|.ptr _ _|.optr _|.nil|.eO|.mp _|.fd _ _|.fn _ _=>rfl
def oo (a:ak) (b:a.den):(kv a).den:=cast (su a).symm b
def WX {c:Type} (d:b=c) (e:bp b=bp c) (a:bp b):cast e a=a.map (cast d):=by subst d;show a=a.map (λf=>f);simp
theorem IA {c C d:Type} (e:b=c) (g:C=d) (f:(b×C)=(c×d)) (a:b×C):cast f a=(cast e a.1,cast g a.2):=by grind
def PM (a:ak) (b:bp a.den):(oo (.osl a) b:bp (kv a).den)=b.map (oo a):=WX (su a).symm _ b
def Y0 (a b:ak) (c:a.den×b.den):(oo (.pr a b) c:(kv a).den×(kv b).den)=(oo a c.1,oo b c.2):=IA (su a).symm (su b).symm _ c
theorem ui:∀b:ak,(kv b).size=b.size
 |.osl a=>rfl
 |.st a=>ui a
 |.pr c d=>by simp only[kv,amW,ui c,ui d]
 |.int _|.bool|.str|.bc _ _|.ptr _ _|.optr _|.nil|.eO|.mp _|.fd _ _|.fn _ _=>rfl
theorem wP {x p:eM->X->Prop} {w:bF} (h:∀c b,x c b->p c b):∀{τ:ak} {cs:amo} {e:τ.den} {g:amu},sr τ=bt->aW x w τ cs e g->(∀b∈g,p .bm b)->aW p w (kv τ) cs (oo τ e) []
 |.osl f,cs,o,g,i,a,j=>by
  obtain⟨y,G,B,a⟩:=a;have C:(oo (.osl f) o:bp (kv f).den).length=cE (α:=f.den) o:=(by rw[PM];simp);rcases a with⟨rfl,R,rfl,rfl⟩|⟨b,N,z,rfl,rfl,n,t,A,u⟩
  ·refine⟨bq,br,0,by rw[B,C],ae,λ_=>rfl,.inl ?_⟩;grind
  refine⟨bq,_,G,by rw[B,C],aa,(λa=>by cases a),?_⟩;refine .inr ⟨b,N,bq,j b ac,λk e m=>?_⟩;rw[PM] at m;have m:(List.map (oo f) o)[k]?=Y e:=m;rw[jv] at m;obtain⟨O,D,rfl⟩:=fQ.1 m;have S:k<cE (α:=f.den) o:=(iv.1 D).1;have K:z[k]?=Y (z[k]'(by omega)):=cH _
  obtain⟨s,q,r,d3⟩:=u k O _ D K;rw[ui];exact⟨s,q,r,wP h i d3 (λl v=>j l (gH _ (mB.2 ⟨_,cT _,v⟩)))⟩
 |.st f,cs,e,g,i,a,j=>wP (τ:=f) h i a j
 |.pr y b,cs,e,g,i,a,j=>by
  simp only[sr,cJ] at i;obtain⟨Q,f2,rfl,n,t⟩:=a;have P:=Y0 y b e;refine⟨[],[],bq,?_,?_⟩
  ·rw[ui];have:=wP h i.1 n (λl v=>j l ae);grind
  rw[ui];have:=wP h i.2 t (λl v=>j l ae);grind
 |.int M,cs,e,g,_,a,_=>by obtain rfl:=anB (τ:=.int M) rfl a;exact a.mono (λc b d=>⟨h c b d,cu _ _⟩) ac
 |.bool,cs,e,g,_,a,_=>by obtain rfl:=anB (τ:=.bool) rfl a;exact a.mono (λc b d=>⟨h c b d,cu _ _⟩) ac
 |.str,cs,e,g,_,a,_=>by obtain rfl:=anB (τ:=.str) rfl a;exact a.mono (λc b d=>⟨h c b d,cu _ _⟩) ac
 |.bc c f,cs,e,g,_,a,_=>by obtain rfl:=anB (τ:=.bc c f) rfl a;exact a.mono (λc b d=>⟨h c b d,cu _ _⟩) ac
 |.ptr c f,cs,e,g,_,a,_=>by obtain rfl:=anB (τ:=.ptr c f) rfl a;exact a.mono (λc b d=>⟨h c b d,cu _ _⟩) ac
 |.nil,cs,e,g,_,a,_=>by obtain rfl:=anB (τ:=.nil) rfl a;exact a.mono (λc b d=>⟨h c b d,cu _ _⟩) ac
 |.optr _,_,_,_,i,_,_=>by cases i
 |.fd c f,cs,e,g,_,a,_=>by obtain rfl:=anB (τ:=.fd c f) rfl a;exact a.mono (λc b d=>⟨h c b d,cu _ _⟩) ac
 |.fn c f,cs,e,g,_,a,_=>by obtain rfl:=anB (τ:=.fn c f) rfl a;exact a.mono (λc b d=>⟨h c b d,cu _ _⟩) ac
 |.mp f,cs,e,g,_,a,j=>by
  cases e with
  |none=>exact⟨bq,a.2⟩
  |some E=>
   obtain⟨b,H,F,n,t,J,A,u,I⟩:=a;refine⟨b,H,F,n,bq,J,j b ae,A,u,λk E L=>?_⟩;obtain⟨s,q,r,d3⟩:=I k E L;exact⟨s,q,r,d3.mono (λc b d=>⟨h c b d,cu _ _⟩) ac⟩
 |.eO,_,_,_,i,_,_=>by cases i
def ss:aI->ao
 |⟨.optr u,x⟩=>.val (.ptr .bm (kv u)) (Y (oo u x))
 |⟨a,x⟩=>.val (kv a) (oo a x)
def JY:ak->bD
 |.optr a=>sr a
 |τ=>sr τ
def he (c:bp (X×aI)) (b:amu) (a:ao):ao:=
 match a with
 |.ref id []=>bif e6 id b then match ax c id with
  |some d=>ss d
  |none=>.dead else .ref id []
 |a=>bif a.fF b then .dead else a
theorem ng (c:bp (X×aI)) (b:amu) (a:ao):(∃id d,a=.ref id []/\id∈b/\ax c id=Y d/\he c b a=ss d)\/(he c b a=.dead/\a.fF b=bt)\/(he c b a=a/\a.fF b=bu):=by
 have e:∀a:ao,he c b a=(bif a.fF b then .dead else a)->(∃id d,a=.ref id []/\id∈b/\ax c id=Y d/\he c b a=ss d)\/(he c b a=.dead/\a.fF b=bt)\/(he c b a=a/\a.fF b=bu):=ae;cases a with
 |ref id g=>
  cases g with
  |nil=>
   cases f:e6 id b with
   |true=>
    have i:(ao.ref id []).fF b=bt:=(by simp[amK,bV,f]);cases h:ax c id with
    |none=>grind [he]
    |some d=>exact .inl ⟨id,d,bq,hH.1 f,h,by grind [he]⟩
   |false=>grind [he,amK,bV]
  |cons j g=>exact e _ rfl
 |_=>exact e _ rfl
def i9 (c:bp (X×aI)) (b:amu):ao->ao
 |.fx d=>.fx (d.map (he c b))
 |a=>he c b a
theorem JX (b:∀a,d≠.fx a):i9 e f d=he e f d:=by
 cases d with
 |fx a=>grind
 |_=>rfl
def uh (a:amu) (st:aR):aR:=⟨st.g.map λb=>(b.1,i9 st.h a b.2),del a st.h⟩
def J8 (c:ao->ao) (e:c .dead=.dead):∀(d:bp (X×ao)) (b:X),gt (d.map λf=>(f.1,c f.2)) b=c (gt d b)
 |[],b=>e.symm
 |(g,a)::d,b=>by
  show gt ((g,c a)::_) b=_;rw[jC,jC];split
  ·rfl
  exact J8 c e d b
theorem FK (a:amu) (st:aR) (b:X):gt (uh a st).g b=i9 st.h a (gt st.g b):=J8 (i9 st.h a) rfl st.g b
def Y3 (a:amu) (st:aR):aX (uh a st).g=λb=>i9 st.h a (aX st.g b):=by
 funext b;cases b with
 |tmp c=>exact FK a st c
 |const d=>cases d<;>rfl
 |func e|global f=>rfl
theorem Hp (b:d.fF f=bu) (a:bp (X×bp a6)):fv f a d=d:=by grind [fv]
def aij {a:bp ao} (b:(ao.fx a).fF f=bu) (e:d∈a):d.fF f=bu:=by unfold amK at b|-;rw[u6] at b|-;intro id h;obtain⟨c,g,rfl⟩:=hN.1 e;exact b id (ao.BS (l:=a) (i:=c) (cH g) h)
theorem MI (b:d.fF f=bu) (a:bp (X×bp a6)):fU f a d=d:=by
 cases d with
 |fx e=>
  simp only[fU];rw[iY (λd c=>Hp (aij b c) a),ap6]
 |_=>exact Hp b a
theorem Y4 (a:amu) (b:bp (X×bp a6)) (c:aI):fU a b (ss c)=fv a b (ss c):=by unfold ss;split<;>rfl
def zv (a e:ao):Prop:=a=.dead\/a=e\/∃b c,a=.fx b/\e=.fx c/\b.length=c.length/\∀(f:X) (d g:ao),b[f]?=Y d->c[f]?=Y g->d=.dead\/d=g
section
variable {C:fg} {st:aR} {G:eB} {w:bF}
theorem cW.freeze {e:X->amo} (u:cW C st G w O e y) (T:∀id∈f,∃b,ax st.h id=Y b/\JY b.1=bt):g0 C (uh f st) G w:=by
 have K:=u.eK (S:=f) (keep:=[]) (new:=[]) (rtn:=e) (fpn:=y) (w':=w) (I':=λa=>O a\/∃id∈f,∃b,ax st.h id=Y b/\a∈y id) ⟨bf _,bq,bq,bq,λ_ _ _=>rfl,λ_ _=>.refl _ _,λ_ c=>.inl c,λa c=>c.imp id λ⟨id,ad,b,s,l⟩=>
  ⟨((u.tree id b s).2.2 a l).2.2.1,.inr ⟨id,ad,b,s,l⟩⟩,(λ_ _ c=>by cases c),(λ_ _ _ _ c=>by cases c),(λ_ c=>by cases c),(λ_ c=>by cases c)⟩
 refine⟨_,_,_,{K with tmp:=λq=>?_}⟩;rw[FK];have m:=u.tmp q;have p:=K.tmp q;rw[show gt (aR.mk (amO f [] st.g) ([]++del f st.h)).g q=fU f [] (gt st.g q) from q8 _ _ _ _] at p;generalize gt st.g q=j at m p;generalize G.getD q bY=i at m p;have E:∀(j:ao) (i:Value),c0 (bi O C.B) w st.h e y j i->c0 (bi (λa=>O a\/∃id∈f,∃b,ax st.h id=Y b/\a∈y id) C.B) w ([]++del f st.h) (fC [] e e) (fC [] y y) (fv f [] j) i->
  c0 (bi (λa=>O a\/∃id∈f,∃b,ax st.h id=Y b/\a∈y id) C.B) w ([]++del f st.h) (fC [] e e) (fC [] y y) (he st.h f j) i:=by
  intro j i m p;rcases ng st.h f j with⟨id,b,k,n,o,R⟩|⟨k,_⟩|⟨k,n⟩
  ·rw[R];rw[k] at m;cases m with|ref s am=>
   rw[o] at s;cases s;obtain⟨rfl,rfl,rfl⟩:=amY.1 am;obtain⟨c1,J,H⟩:=T id n;rw[o] at J;cases J;have F:∀v a,bi O C.B v a->bi (λa=>O a\/∃id∈f,∃b,ax st.h id=Y b/\a∈y id) C.B v a:=by
    intro v a l;cases v
    ·exact .inl l
    exact l.imp .inl (λc=>c)
   have I:=(u.tree id b o).1;have z:∀a∈y id,bi (λa=>O a\/∃id∈f,∃b,ax st.h id=Y b/\a∈y id) C.B .bm a:=λa l=>.inr ⟨id,n,b,o,l⟩;obtain⟨d,t⟩:=b;by_cases an:∃r,d=.optr r
   ·obtain⟨r,rfl⟩:=an;obtain⟨a,A,bx,N,ar,a4,bl,P,bs,Q⟩:=I;show c0 _ _ _ _ _ (.val (.ptr .bm (kv r)) (Y (oo r t))) _;have ar:e id=[.pointer (Y ⟨a,A,br⟩)]:=ar;rw[ar];refine .val (τ:=.ptr .bm (kv r)) (x:=Y (oo r t)) (cs:=[.pointer (Y ⟨a,A,br⟩)]) ⟨bq,a,A,N,bq,z a ae,by grind [ui],P,wP F H Q (λM ce=>z M ae)⟩
   have av:c9 d (e id)=c9 (kv d) (e id):=(by cases d<;>rfl);have a0:ss ⟨d,t⟩=.val (kv d) (oo d t):=by cases d<;>first|rfl|grind
   have ap:sr d=bt:=by cases d<;>first|exact H|grind
   rw[a0];show c0 _ _ _ _ _ _ (c9 d (e id));rw[av];exact .val (wP F ap I z)
  ·rw[k];exact .dead _
  grind [Hp]
 cases j with
 |fx cv=>
  cases m with|fx ci U=>
  cases p with|fx co V=>
  refine .fx ae (λL a3 i k n=>?_);rw[jv] at k;obtain⟨D,o,rfl⟩:=fQ.1 k;exact E D i (U L D i o n) (V L _ i ae n)
 |_=>exact E _ _ m p
theorem g0.Qx (t:g0 C st G w) (y:∀a,zv (gt i.g a) (gt st.g a)) (J:∀id,ax i.h id=ax st.h id):g0 C i G w:=by
 obtain⟨k,n,l,d⟩:=t;refine⟨k,n,l,{d with tree:=λid e p=>d.tree id e ae,dis:=λj D e F L M=>d.dis j D e F ae ae,tmp:=λa=>?_}⟩;have P:∀(b:ao) (f:Value),c0 (bi k C.B) w st.h n l b f->c0 (bi k C.B) w i.h n l b f:=λb f v=>
  v.uB (λO H x=>⟨x,cu _ _⟩) (λid _ e p=>⟨ae,bq,bq,(d.tree id e p).1,λ_ _=>cu _ _⟩)
 have m:=d.tmp a;rcases y a with c|c|⟨N,E,ar,q,r,s⟩
 ·rw[c];exact .dead _
 ·grind
 rw[ar];rw[q] at m;generalize G.getD a bY=f at m;cases m with|fx z K=>
 refine .fx (r.trans z) (λj b f u I=>?_);obtain⟨o,A⟩:∃o,E[j]?=some o:=ae;rcases s j b o u A with c|c
 ·rw[c];exact .dead _
 grind
def g0.less (b:g0 C st G w) (c:∀a,gt i.g a=.dead\/gt i.g a=gt st.g a) (d:∀id,ax i.h id=ax st.h id):g0 C i G w:=
 b.Qx (λa=>(c a).imp id .inl) d
end
def s4:Op->bp bO
 |.build _ c|.buildSlice _ _ c=>c.toList.map (·.2)
 |.store _ _ a|.mapUpdate _ _ _ a|.insert _ _ _ a|.entryStore _ _ _ a|.box _ a|.assign a=>[a]
 |.call b=>match b.callee with
  |.value _=>b.args.toList
  |.builtin .append=>b.args.toList.drop 1
  |_=>[]
 |_=>[]
def wh (b:bU):X:=match b.dst with
 |some a=>a
 |none=>999999
def nh (a:amw) (c:X) (b:bO->ao):bp bO->amu
 |[]=>[]
 |x::d=>match b x with
  |.ref id []=>bif a.any (λe=>bL e.1 c&&bL e.2 id) then id::nh a c b d else nh a c b d
  |_=>nh a c b d
end
section
theorem IP {c d:bp b} (e:m<=a) (f:a<=c.length):(ka c d m a).length=c.length:=by grind [amX,am5,aqa,ka]
theorem OG {d e:bp b} (f:a<=m) (g:m<=d.length) (c:X):(ka d e a m)[c]?=if a<=c/\c<a+min e.length (m-a) then e[c-a]? else d[c]?:=by grind [ka]
def sd {k:Type} (tt:bp (bH×ak)) (d:bp (X×aI)) (f:X) (l:bH) (m j:ao) (e:cP->bv k):bv k:=
 match hf tt l with
 |none=>br
 |some i=>match m with
  |.ref id []=>match ax d id with
   |some ⟨.osl a,b⟩=>bif bg i a&&bL a.size 1&&a.pure then
    (lX d a j).bind λc=>e ⟨Y (f,.val (.int .i64) ((min c.length (b.length-0):X):Z)),[id],[(id,[])],[(id,⟨.osl a,ka b c 0 b.length⟩)]⟩
    else br
   |_=>br
  |.view id [] h g=>match ax d id with
   |some ⟨.osl a,b⟩=>bif bg i a&&bL a.size 1&&a.pure then
    (lX d a j).bind λc=>e ⟨Y (f,.val (.int .i64) ((min c.length (g-h):X):Z)),[id],[(id,[])],[(id,⟨.osl a,ka b c h g⟩)]⟩
    else br
   |_=>br
  |_=>br
def cP.Wj {b:bp (X×bp a6)} {st:aR}:(cP.mk (Y (a,d)) f b e).app st=⟨(a,d)::amO f b st.g,e++del f st.h⟩:=by show aR.mk ((a,d)::ou f b st.g) (e++sn f st.h)=_;rw[uo,yl]
section
variable {E:fP} {C:fg} {st:aR} {a:Act} {w:bF} {I:X->Prop} {rt:X->amo} {fp:X->amu} {o:bU}
def MW (e:cW C st a.tmps w I rt fp) {b:bp k.den} (c:lX st.h k (aX st.g n)=Y b):z7 I C.B w k (a.eval n) b:=by
 refine w6 e ?_;have:=CP c;generalize s6 st.h k (aX st.g n)=i at this;cases i with
 |ff l=>exact this.symm
 |part m o j=>obtain⟨f,d,rfl⟩:=this;exact⟨f,d,bq⟩
 |bad=>exact this.elim
theorem IN (ce:cW C st a.tmps w I rt fp) {el:b} {c1:cP->bv b} {x:X} (gi:o.op=.call {callee:=.builtin .copy,args:=#[n,N],argTypes:=#[c,r]}) (f5:o.dst=Y x) (f6:C.ok x) {next:Act->bF->Prop} {dg:b8->Act->bF->Prop} (gf:∀em a0 w',(∃q,c1 q=Y el/\em=q.app st)->a0.defers=a.defers->g0 C em a0.tmps w'->next a0 w') (f2:hf E.tt c=Y Q) (ge:bg Q k=bt) (D:k.size=1) (T:k.pure=bt) {id e:X} {j i:bp k.den} (V:ax st.h id=Y ⟨.osl k,j⟩) (bs:m<=e) (bx:e<=j.length) (gt:z7 I C.B w k (a.eval N) i) {ad:bv ck} {dl:X} (go:a.eval n=.slice ad (e-m) dl) (gs:e-m=0\/∃d l J,rt id=[.slice (Y ⟨d,l,br⟩) j.length J]/\ad=Y ⟨d,l+m,br⟩) (fT:c1 ⟨Y (x,.val (.int .i64) ((min i.length (e-m):X):Z)),[id],[(id,[])],[(id,⟨.osl k,ka j i m e⟩)]⟩=Y el):o.wp E.P a w next dg:=by
 obtain⟨f,c2,aB,d5,ft⟩:=hf.ok f2;have fz:=ft.lay ge;obtain⟨mc,_,an,_⟩:=fz.info;obtain⟨ex,nd,ne⟩:=ce.tree id _ V;obtain⟨fl,i1,d0,hi,ci,lc⟩:=gt;have ds:∀w':bF,w'.heap.size=w.heap.size->w'.os=w.os->w'.tape=w.tape->w'.output=w.output->(∀d,d∉fp id->w'.heap[d]?=w.heap[d]?)->(∀d,jF w' d=jF w d)->aW (bi I C.B) w' (.osl k) (rt id) (ka j i m e) (fp id)->
  (Builtin.copy_ #[c,r] o.type #[a.eval n,a.eval N]).run E.P w=.ok (goInt ((min i.length (e-m):X):Z)) w'->o.wp E.P a w next dg:=by
  intro w' ii io is cS ix i0 mz U;have U:(bP a.eval o).run E.P w=.ok (.value (goInt ((min i.length (e-m):X):Z))) w':=(by simp only[bP,gi,anf,invoke,anz,b0,cz,b4,ao9,hA,tg,U]);have gl:=ce.eK (S:=[id]) (keep:=[(id,[])]) (new:=[(id,⟨.osl k,ka j i m e⟩)]) (rtn:=rt) (fpn:=fp) (w':=w') (I':=I)
   ⟨Nat.le_of_eq ii.symm,io,is,cS,λd kg f1=>ix d (f1 id ac _ V),λd _=>.of_eq (i0 d),λ_ K=>K,λ_ K=>.inl K,(by
    intro f eq s;rw[eJ] at s;split at s
    ·grind
    ·cases s),(by
    intro f g nn no s co le;rw[eJ] at s co;split at s
    ·split at co
     ·omega
     cases co
    ·cases s),(by
    intro q L eq am;simp only[gI] at L;subst L;have am:ax st.h id=Y eq:=am;rw[V] at am;obtain rfl:=gn am;exact⟨⟨.osl k,ka j i m e⟩,by rw[eJ,ay bq],bq,bq,⟨_,bq⟩,λmt _ _ _ O=>by grind [FY]⟩),(by
    grind [v2,amF])⟩
  unfold amH;rw[U];show next (a.put o.dst _) w'
  rw[f5];have T:=gl.put f6 (av:=.val (.int .i64) ((min i.length (e-m):X):Z)) (v:=goInt ((min i.length (e-m):X):Z)) (.val (τ:=.int .i64) (cs:=[.int .i64 _]) ⟨bq,bq⟩);have hrel:g0 C ((cP.mk (Y (x,.val (.int .i64) ((min i.length (e-m):X):Z))) [id] [(id,[])] [(id,⟨.osl k,ka j i m e⟩)]).app st) (a.put (Y x) (goInt ((min i.length (e-m):X):Z))).tmps w':=(by rw[cP.Wj];exact⟨I,_,_,T⟩);exact gf _ _ _ ⟨_,fT,bq⟩ rfl hrel
 have lo:Nat.min i.length (e-m)=min i.length (e-m):=rfl;by_cases O:min i.length (e-m)=0
 ·have lb:ka j i m e=j:=by
   apply iJ;intro f;rw[OG bs bx,aw aa]
  refine ds w bq rfl rfl rfl (λ_ _=>rfl) (λ_=>rfl) ae ?_;rw[go,hi,O];exact run_copy_none w c r o.type c2 ad fl _ _ _ _ d5 (by rw[an.info];simp[an.size,D]) aa
 rcases gs with kd|⟨d,l,J,d9,rfl⟩
 ·omega
 rw[d9] at ex;obtain⟨i2,jp,ar,fs⟩:=ex;simp only[ij,amE,cf] at ar;obtain⟨rfl,_,rfl⟩:=ar;rcases fs with⟨a3,_⟩|⟨i3,mp,z,a3,d8,d1,d2,bl,d4⟩
 ·cases a3
 cases a3;have d2:j.length<=J:=d2;have d1:z.length=j.length:=d1;have f9:z.flatten=[]:=JO (λa4 M=>by
  obtain⟨f,s,rfl⟩:=hN.1 M;have ll:f<j.length:=aa;obtain⟨y,_,_,d3⟩:=d4 f j[f] z[f] ac ac;exact d3.pure T)
 rw[f9] at d8;obtain⟨cv,hv,hw,ib,ic⟩:=ci.cells aa;rw[D,aoc] at hv;have hc:i≠[]:=λq=>ae;obtain⟨ap,rfl⟩:∃ap,fl=some ap:=by
  rcases ci.2 with K|⟨i8,mo,rfl,_⟩
  ·grind
  grind
 let cs:=cv.take (min i.length (e-m))
 have f3:cs.length=min i.length (e-m):=ae;have f4:∀g v,cs[g]?=Y v->cv[g]?=Y v:=λg v p=>by
  rw[ao0] at p;split at p
  ·exact p
  grind
 have d7:∀g,g<cs.length->(w.cell? ⟨d,l+m+g,br⟩).isSome=bt:=λg p=>(bl (l+m+g) aa ae).1;have U:=run_copy_cells (P:=E.P) w c r o.type c2 d (l+m) (e-m) dl ap i.length i1 cs d5 (by rw[an.info];simp[an.size,D]) (by rw[f3]) (λg v p=>ib ap bq hc g v (f4 g v p)) d7 (λg p=>(bl (l+m+g) aa ae).2) (λv u=>hw v (ve u));have d6:d∈fp id:=ae;have f0:∀G t,bi I C.B G t->t≠d:=λG t R q=>ce.notM V d d6 G (q▸R);refine ds (w.setCells d (l+m) cs) (uQ d cs _ w) (qj d cs _ w).1 (qj d cs _ w).2.1 (qj d cs _ w).2.2 (λt O=>zl d cs _ w t (λq=>O (q▸d6))) (λt=>BQ _ _ _ _ _) ?_ ?_
 ·rw[d9,d8];refine⟨Y ⟨d,l,br⟩,J,by rw[IP bs bx],.inr ⟨d,l,bM j.length [],bq,by rw[JO (λa4 M=>List.eq_of_mem_replicate M)],by grind [IP],by grind [IP],?_,?_⟩⟩
  ·intro g hr hs;obtain⟨nx,n7⟩:=bl g hr hs;grind [Mf,apY]
  intro f H a4 F M;have f8:a4=[]:=ae;subst f8;rw[OG bs bx] at F;have ek:∀{y:amo} {H:k.den},aW (bi I C.B) w k y H []->aW (bi I C.B) (w.setCells d (l+m) cs) k y H []:=λA=>A.mono (λG t R=>⟨R,sS (f0 G t R)⟩) ac;split at F
  ·rename_i lk;have p:f-m<cs.length:=aa;have gc:d0[f-m]?=Y []:=by
    have lt:f-m<d0.length:=(by rw[ci.1];omega);grind [List.flatten_eq_nil_iff,ca,bZ]
   have A:=ic (f-m) H [] F gc;rw[D,aoc] at A;have f7:(cv.drop (f-m)).take 1=[cs[f-m]]:=(by grind [List.drop_eq_getElem_cons]);rw[f7] at A;refine⟨[cs[f-m]],ae,?_,ek A⟩;intro g v u;cases g with
   |zero=>
    simp only[rR,e9] at u;subst u;have:=aoD d cs (l+m) w d7 (f-m) p;rw[<-this,D];congr 2;omega
   |succ g=>grind
  rename_i l2;have lf:f<j.length:=(iv.1 F).1;obtain⟨y,fn,fr,d3⟩:=d4 f H (z[f]'(by omega)) F ac
  have L:z[f]'(by omega)=[]:=d3.pure T
  rw[L] at d3;refine⟨y,fn,?_,ek d3⟩;intro g v u;have:=fr g v u;grind [apd,anL]
 grind
theorem fi.copy {J:b} {F:cP->bv b} (A:o.op=.call {callee:=.builtin .copy,args:=#[n,N],argTypes:=#[c,r]}) (v:o.dst=Y m) (x:C.ok m) (d:sd E.tt st.h m c (aX st.g n) (aX st.g N) F=Y J):fi E C o st (λS=>∃H,F H=Y J/\S=H.app st):=by
 rintro a w ⟨I,rt,fp,f⟩ next am z
 have k:=f.aX n;unfold sd at d;split at d
 ·cases d
 rename_i K B;split at d
 ·rename_i id u;split at d
  case h_2=>cases d
  rename_i j L i;cases e:(bg K j&&bL j.size 1&&j.pure) with
  |false=>grind
  |true=>
  rw[e] at d;simp only[cJ] at e;obtain⟨U,q,d⟩:=e3.1 d;rw[u] at k;generalize p:a.eval n=T at k;cases k with|ref l y=>
  rw[i] at l;cases l;obtain⟨rfl,rfl,rfl⟩:=amY.1 y;have D:=(f.tree id _ i).1;obtain⟨ad,G,ar,M⟩:=D;have P:a.eval n=.slice ad (L.length-0) G:=(by rw[p,ar];rfl);refine IN f A v x z B e.1.1 (fJ e.1.2) e.2 i (eU _) (bf _) (MW f q) P ?_ d;grind
 ·rename_i id a4 av u;split at d
  case h_2=>cases d
  rename_i j L i;cases e:(bg K j&&bL j.size 1&&j.pure) with
  |false=>grind
  |true=>
  rw[e] at d;simp only[cJ] at e;obtain⟨U,q,d⟩:=e3.1 d;rw[u] at k;generalize p:a.eval n=T at k;cases k with|mZ=>(exact IN f A v x z B e.1.1 (fJ e.1.2) e.2 i (bf _) (eU _) (MW f q) p (.inl bq) d)|view l y Q R a0=>
  rw[i] at l;cases l;rename_i V bl an bs a3 G;obtain⟨s,_,t⟩:=amY.1 y;have s:ak.osl j=ak.osl V:=s;cases s;have O:=fJ e.1.2;have D:=(f.tree id _ i).1;obtain⟨ad,ap,ar,M⟩:=D;rw[ar] at t;simp only[ij,amE,cf] at t;obtain⟨rfl,rfl,rfl⟩:=t;refine IN f A v x z B e.1.1 O e.2 i Q R (MW f q) p ?_ d;grind
 grind
end
end
section
def aZ.cells {w p:bF} (e:∀a,p.cell? a=w.cell? a):∀{n:bp a6} {τ q:ak} {l m:Loc} {cs f:amo},aZ w τ l cs n q m f->aZ p τ l cs n q m f
 |[],τ,_,_,_,_,_,c=>by cases τ<;>exact c
 |s::n,τ,q,l,m,cs,f,c=>by
  have r:∀{b o:X} {d:amo},fG w b o d->fG p b o d:=λx z B y=>(by rw[e];exact x z B y);cases τ<;>cases s<;>simp only[aZ] at c
  case osl.idx t i=>
   obtain⟨b,o,A,u,d,g,h,j,k,v⟩:=c;exact⟨b,o,A,u,d,g,h,j,r k,v.cells e⟩
  case optr.deref t=>
   obtain⟨b,o,d,g,h,j,k⟩:=c;exact⟨b,o,d,g,h,r j,k.cells e⟩
  case st.unst t=>exact aZ.cells e (τ:=t) c
  case pr.fst a b=>exact aZ.cells e (τ:=a) c
  case pr.snd a b=>exact aZ.cells e (τ:=b) c
theorem ah4 (a:ak):fE a []=Y a:=by cases a<;>rfl
theorem aZ.zr {w:bF} {r:bp a6}:∀{p:bp a6} {τ c:ak} {l m:Loc} {cs e:amo},aZ w τ l cs p c m e->fE τ (p++r)=fE c r
 |[],τ,_,_,_,_,_,a=>by grind [amY]
 |s::p,τ,_,_,_,_,_,a=>by
  cases τ<;>cases s<;>simp only[aZ] at a
  case osl.idx t i=>obtain⟨d,o,q,n,f,g,h,j,b,k⟩:=a;exact k.zr
  case optr.deref t=>obtain⟨d,o,f,g,h,j,b⟩:=a;exact b.zr
  case st.unst t=>exact aZ.zr (p:=p) (τ:=t) a
  case pr.fst t1 t2=>exact aZ.zr (p:=p) (τ:=t1) a
  case pr.snd t1 t2=>exact aZ.zr (p:=p) (τ:=t2) a
section
variable {E:fP} {C:fg} {st:aR} {a:Act} {A:eB} {w:bF} {I:X->Prop} {rt:X->amo} {fp:X->amu} {o:bU} {Q:aR->Prop}
def OW:∀{p q:bp a6},lG (p++[.deref]) q=bt->lG p q=bt
 |[],q,a=>by
  cases q with
  |nil=>cases a
  |cons s q=>
   cases s<;>cases a
 |s::p,[],a=>by cases s<;>cases a
 |s::p,b::q,a=>by cases s<;>cases b<;>first|(cases a;done)|exact OW (p:=p) (q:=q) a|rfl
theorem cW.Gb (v:cW C st A w I rt fp) {id:X} (t:ax st.h id=Y P) {d6:ak} {V:Loc} {cs:amo} (N:aZ w P.1 br (rt id) j d6 V cs) {S:bp (Z×k.den)} (cv:e2 P.1 P.2 j (.mp k) (Y (S,m))):∃a E D,cs=[.map (Y a)]/\a∈fp id/\(∀q b,bi I C.B q b->b≠a)/\hO (bi I C.B) w k a S m E D/\∀{e:bW cp} {c:X} {z:bp (Z×k.den)} {K:bp (Z×X×k.den)} {p:P.1.den},hO (bi I C.B) (g7 w a e c) k a z c e K->lA w (g7 w a e c) a->fq P.1 P.2 j (.mp k) (Y (z,c)) p->∃d5 av,cW C ⟨amO [id] [(id,j++[.deref])] st.g,(id,⟨P.1,p⟩)::del [id] st.h⟩ A (g7 w a e c) I d5 av:=by
 obtain⟨ds,Q,ci⟩:=v.tree id P t;obtain⟨f3,d9,el,d4,a0,a3,a4,L,em,bl,bs⟩:=Bv j (loc:=br) ds (λ_ _ i=>by cases i) Q (λ_ _ i=>by cases i) (v.notM t) cv;obtain⟨am,ar,an⟩:=N.lj a0;subst am;subst ar;subst an;obtain⟨a,E,D,rfl,rfl,F⟩:=a3.Rb;have G:a∈fp id:=L.mem_iff.2 ac;have ce:∀q b,bi I C.B q b->b≠a:=λq b f n=>v.notM t a G q (n▸f);refine⟨a,E,D,bq,G,ce,F,?_⟩;intro e c z K p bx ex R;have O:=L.nodup_iff.1 Q;rw[jR] at O;have ft:∀b∈d4,b≠a:=λb f n=>O.2.2 a ac b f n.symm;have x:=agX (es':=e) (c':=c) F.h;have co:=agY (es':=e) (c':=c) F.h;have d1:∀b,b≠a->dm w (g7 w a e c) b:=λb f=>G4 f;obtain⟨ek,ap,fz,_,d2,_,f0,_,fT⟩:=bl (g7 w a e c) (bi I C.B) [.map (Y a)] (Y (z,c)) [a] p (λ_ _ i=>i) (λb f=>by
   have c1:b≠a:=by
    rcases f with⟨q,fr⟩|f|⟨o,fs⟩
    ·grind
    ·grind
    grind
   exact⟨λu _=>x _,λu=>co _,λu=>by rw[x],(d1 b c1).2⟩)
  (aW.Rc bx) (λ_ _=>rfl) (λad d3 n=>by
   have:=(a4 ad d3 n).1;exactλu U s=>by rw[x];exact this u U s) R
 obtain rfl:=d2 bq (.inr bq);have fn:=(ci a G).2.2.1;have d:ob C st w (g7 w a e c) I I rt fp [id] [(id,j++[.deref])] [(id,⟨P.1,p⟩)] (λ_=>rt id) (λ_=>ap):=by
  refine⟨by grind [TO],bq,bq,bq,?_,?_,λ_ i=>i,λ_ i=>.inl i,?_,?_,?_,?_⟩
  ·grind [Cs]
  ·intro b _;by_cases n:b=a
   ·grind
   exact .of_heap (Cs n)
  ·intro H J d;rw[eJ] at d;split at d
   ·grind [TO]
   cases d
  ·intro H u J U l s fl;rw[eJ] at l s;split at l
   ·split at s
    ·omega
    cases s
   cases l
  ·intro H l J d;simp only[gI] at l;subst l;rw[t] at d;obtain rfl:=gn d;refine⟨⟨P.1,p⟩,by rw[eJ,ay bq],bq,bq,?_,λT f8 f4 d8 _ dl=>dl.cells x⟩;have eq:=N.zr (r:=[.deref]);grind [ah4,fE]
  intro H l J d T f7 f6 f1 d7 f2 y dg c2 M d0;simp only[gI] at l;subst l;rw[t] at d;obtain rfl:=gn d;have y:=OW y;refine⟨⟨P.1,p⟩,by rw[eJ,ay bq],v5 y R M,λb f=>?_⟩;obtain⟨aB,f5⟩:=bs T _ _ _ _ _ y (by exact dg) M c2 d0 b f;grind
 exact⟨_,_,v.eK d⟩
def uy {α:Type} (c:bv (bp (Z×α)×X)) (b:Z) (d:α):bv (bv (bp (Z×α)×X)):=match c with
 |none=>br
 |some a=>Y (Y (kK a.1 b d,bif (gk a.1 b).isSome then a.2 else a.2+1))
def pk {f:Type} (tt:bp (bH×ak)) (i:bp (X×aI)) (h:bH) (m d l:ao) (g:cP->bv f):bv f:=
 match m with
 |.ref id c=>match ax i id with
  |some a=>match lP tt h,d,l with
   |some k,.val (.int .i64) d,.val o e=>match fE a.1 c with
    |some (.mp b)=>bif bg k b then match il b e with
     |some e=>(ip a.1 a.2 c (.mp b)).bind λba=>(uy (α:=b.den) ba d e).bind λj=>(nq a.1 a.2 c (.mp b) j).bind λn=>g ⟨br,[id],[(id,c++[.deref])],[(id,⟨a.1,n⟩)]⟩
     |none=>br
     else br
    |_=>br
   |_,_,_=>br
  |none=>br
 |_=>br
def aas {α:Type} (c:bv (bp (Z×α)×X)) (b:Z):bv (bv (bp (Z×α)×X)):=match c with
 |none=>br
 |some a=>Y (Y (jW a.1 b,a.2))
def sC {e:Type} (tt:bp (bH×ak)) (h:bp (X×aI)) (g:bH) (k d:ao) (f:cP->bv e):bv e:=
 match k with
 |.ref id b=>match ax h id with
  |some a=>match lP tt g,d with
   |some j,.val (.int .i64) d=>match fE a.1 b with
    |some (.mp c)=>bif bg j c then
     (ip a.1 a.2 b (.mp c)).bind λba=>(aas (α:=c.den) ba d).bind λi=>(nq a.1 a.2 b (.mp c) i).bind λl=>f ⟨br,[id],[(id,b++[.deref])],[(id,⟨a.1,l⟩)]⟩
     else br
    |_=>br
   |_,_=>br
  |none=>br
 |_=>br
theorem Ri {A:b} {r:cP->bv b} {f:bO} (j:o.op=.mapUpdate c f n N\/o.op=.insert c f n N) (S:o.dst=br) (d:pk E.tt st.h c (aX st.g f) (aX st.g n) (aX st.g N) r=Y A):fi E C o st (λcs=>∃t,r t=Y A/\cs=t.app st):=by
 rintro a w ⟨I,rt,fp,i⟩ next d1 ad
 have p:=i.aX f;have e:=i.aX n;have m:=i.aX N;unfold pk at d;split at d
 case h_2=>cases d
 rename_i id d5 G;split at d
 case h_2=>cases d
 rename_i eq y;split at d
 case h_2=>cases d
 rename_i c2 k em ek R B F;obtain⟨dg,d0,cv,c1,d6⟩:=lP.ok R;split at d
 case h_2=>cases d
 rename_i q an;cases u:bg c2 q with
 |false=>grind
 |true=>
 rw[u] at d;simp only[bI] at d;split at d
 case h_2=>cases d
 rename_i d9 a0;obtain⟨ba,U,J⟩:=e3.1 d;obtain⟨d4,v,K⟩:=e3.1 J;obtain⟨el,a3,L⟩:=e3.1 K;cases ba with
 |none=>cases v
 |some bs=>
 obtain⟨a4,s⟩:=bs;cases v;cases kY a0;rw[G] at p;rw[B] at e;rw[F] at m;generalize av:a.eval f=d8 at p;generalize V:a.eval n=d3 at e;generalize ap:a.eval N=d7 at m;cases e with|val ci=>
 obtain⟨_,rfl⟩:=ci;cases m with|val cF=>
 cases p with|ref z x=>
 rw[y] at z;cases z;obtain⟨l,d2,dl,rfl,u,O,M,T⟩:=i.Gb y x (jo U);have:=x.ty;rw[an] at this;cases this;obtain⟨D,ds,aB,bx,ce⟩:=M.update (P:=E.P) cv c1 k cF.len cF;obtain⟨co,H,Q⟩:=T (bx (λbl n e=>⟨e,O bl n e⟩)) ce (nV a3);unfold amH;have am:(bP a.eval o).run E.P w=.ok .skip (g7 w l D (bif (gk a4 k).isSome then s else s+1)):=by
  have this:∀q:ak,c9 (.mp q) [an8 (Y l)]=.map (Y l):=λ_=>rfl;rcases j with j|j<;>
  ·simp only[bP,j,av,V,ap,b0];rw[this,show c9 (.int .i64) [amJ .i64 k]=.int .i64 k from rfl,aB];rfl
 rw[am];show next (a.put o.dst bY) _
 rw[S];refine ad _ _ _ ⟨_,L,?_⟩ rfl ⟨I,co,H,Q⟩;rfl
theorem aaC {x:b} {m:cP->bv b} (U:o.op=.call {callee:=.builtin .delete,args:=#[N,n],argTypes:=#[c,r]}) (O:o.dst=br) (d:sC E.tt st.h c (aX st.g N) (aX st.g n) m=Y x):fi E C o st (λbs=>∃p,m p=Y x/\bs=p.app st):=by
 rintro a w ⟨I,rt,fp,i⟩ next c2 T
 have j:=i.aX N;have e:=i.aX n;unfold sC at d;split at d
 case h_2=>cases d
 rename_i id d1 B;split at d
 case h_2=>cases d
 rename_i d5 u;split at d
 case h_2=>cases d
 rename_i ci k M z;obtain⟨co,c1,bx,ce,d2⟩:=lP.ok M;split at d
 case h_2=>cases d
 rename_i l ad;cases q:bg ci l with
 |false=>grind
 |true=>
 rw[q] at d;simp only[bI] at d;obtain⟨ba,R,F⟩:=e3.1 d;obtain⟨d0,s,G⟩:=e3.1 F;obtain⟨d4,an,H⟩:=e3.1 G;cases ba with
 |none=>cases s
 |some av=>
 obtain⟨ds,y⟩:=av;cases s;rw[B] at j;rw[z] at e;generalize am:a.eval N=d3 at j;generalize S:a.eval n=dl at e;cases e with|val a4=>
 obtain⟨_,rfl⟩:=a4;cases j with|ref v t=>
 rw[u] at v;cases v;obtain⟨f,dg,cs,rfl,q,K,J,Q⟩:=i.Gb u t (jo R);have:=t.ty;rw[ad] at this;cases this;obtain⟨A,cv,aB,a0,a3⟩:=J.delete (P:=E.P) bx ce k o.type r;obtain⟨bl,D,L⟩:=Q (a0 (λap n e=>⟨e,K ap n e⟩)) a3 (nV an);unfold amH;have V:(bP a.eval o).run E.P w=.ok (.value (.tuple #[])) (g7 w f A y):=(by simp only[bP,U,anf,invoke,anz,b0,cz,b4,ao9,hA,tg,am,S];have this:∀l:ak,c9 (.mp l) [an8 (Y f)]=.map (Y f):=λ_=>rfl;rw[this,show c9 (.int .i64) [amJ .i64 k]=.int .i64 k from rfl,aB];rfl);rw[V];show next (a.put o.dst (.tuple #[])) _
 rw[O];refine T _ _ _ ⟨_,H,?_⟩ rfl ⟨I,bl,D,L⟩;rfl
def wJ (c:bp (X×aI)) (f g:ao):bv (X×bp a6×X×aI):=match f,g with
 |.ref id (e::d),.ref a []=>match ax c a with
  |some b=>match b.1 with
   |.osl h=>match h.pure with
    |true=>br
    |false=>Y (id,e::d,a,b)
   |_=>br
  |none=>br
 |_,_=>br
def Ac {h:Type} (tt:bp (bH×ak)) (e:bp (X×aI)) (b:X) (j:bH) (id:X) (c:bp a6) (f:X) (k:aI) (i:cP->bv h):bv h:=
 match hf tt j,ax e id,ax e b with
 |some l,Y d,br=>match fE d.1 c with
  |some (.osl a)=>match il (.osl a) k.2 with
   |some g=>bif bg l a&&(b5 a.size 1300&&(a.lr&&!(bL f id))) then
    (ip d.1 d.2 c (.osl a)).bind λm=>(c3 (cE (α:=a.den) m+cE (α:=a.den) g)).bind λ_=>i ⟨Y (b,.app id c a g [b,f]),[id],[(id,c),(id,[])],[(b,⟨.eO,()⟩),(id,d)]⟩
    else br
   |none=>br
  |_=>br
 |_,_,_=>br
def o6 {g:Type} (tt:bp (bH×ak)) (h:bp (X×ak)) (a:bp (X×aI)) (d:X) (c:bH) (e f:ao) (b:cP->bv g):bv g:=match wJ a e f with
 |some (id,j,i,k)=>Ac tt a d c id j i k b
 |none=>pW tt h a d c e f b
theorem LK {id:X} (a:wJ e d t=Y (id,j,m,P)):d=.ref id j/\t=.ref m []/\ax e m=Y P:=by unfold wJ at a;grind
theorem Wg {z:b} {s:cP->bv b} (x:o.op=.call {callee:=.builtin .append,args:=#[N,n],argTypes:=#[c,c]}) (u:o.dst=Y m) (v:C.ok m) (d:o6 E.tt l st.h m c (aX st.g N) (aX st.g n) s=Y z):fi E C o st (λce=>∃f,s f=Y z/\ce=f.app st):=by
 unfold o6 at d;split at d
 case h_2=>exact fi.app x u v (Wd d (λf p=>⟨f,p,bq⟩))
 rename_i id dg e ci am;obtain⟨L,M,q⟩:=LK am;unfold Ac at d;split at d
 case h_2=>cases d
 rename_i co d3 J av K;split at d
 case h_2=>cases d
 rename_i j c1;split at d
 case h_2=>cases d
 rename_i d1 a3;cases i:(bg co j&&(b5 j.size 1300&&(j.lr&&!(bL e id)))) with
 |false=>grind
 |true=>
 rw[i] at d;simp only[cJ] at i;obtain⟨Q,ap,T,U⟩:=i;have U:e≠id:=λf=>ag;obtain⟨d0,a0,G⟩:=e3.1 d;obtain⟨_,R,H⟩:=e3.1 G;obtain⟨d2,A⟩:=ci;cases kY a3;rintro a w ⟨I,rt,fp,k⟩ next cs V
 refine NN (S2:=[e]) x u v k V J Q (ha ap) T L av K (jo a0) ?_ ?_ (yL R) ⟨_,H,bq⟩
 ·have r:=k.aX n;rw[M] at r;generalize c2:a.eval n=ds at r;cases r with|ref y S=>
  rw[q] at y;cases y;obtain⟨rfl,rfl,rfl⟩:=amY.1 S;obtain⟨bl,bx,dl⟩:=k.tree e _ q;have a4:=bl;obtain⟨ad,t,an,cv⟩:=a4;have bs:aW (bi I C.B) w (.osl j) [.slice ad (cE (α:=j.den) A) t] A (fp e):=ae;obtain⟨_,_,F,p,O,P,_⟩:=k8.osl bs;exact⟨ad,t,F,by rw[an];rfl,p,P bx,λD i=>⟨e,ac,_,q,O D i⟩⟩
 grind
end
end
section
section
variable {P:b2} {w:bF} {b c:X} {A:bW cp} {M:eM->X->Prop} {t:ak} {l:bp (Z×t.den)} {L:bp (Z×X×t.den)}
theorem Mg {d e:bW cp} (g:w.heap[b]?=Y (.map A c)) (f:g7 w b d a=g7 w b e m):d=e/\a=m:=by grind [anV,Obj.map.injEq,pt]
theorem hO.NU (h:hO M w t b l c A L) {g:cp} (i:A[a]?=Y g):∃d f,L[a]?=Y d/\g=⟨.int .i64 d.1,c9 t f,d.2.1⟩:=by have j:a<L.length:=(by have:=(s7.1 i).1;rw[h.n] at this;omega);obtain⟨f,_,k,_⟩:=h.e a L[a] (cH j);grind
theorem hO.aib (f:hO M w t b l c A L) {d e:Z×X×t.den} (n:L[a]?=Y d) (o:L[m]?=Y e) (k:d.1=e.1):a=m:=by have h:=f.p9.nd;have g:a<(L.map (·.1)).length:=ae;apply(ao7 g h (i:=a) (j:=m)).1;grind
theorem hO.aia (f:hO M w t b l c A L) {e d:Z×X×t.den} (n:L[a]?=Y e) (o:L[m]?=Y d) (k:e.2.1=d.2.1):a=m:=by have h:=f.p9.2.2.1;have g:a<(L.map λd=>d.2.1).length:=ae;apply(ao7 g h (i:=a) (j:=m)).1;grind
theorem Ra {d:Type} {c:bW d} {e f:d->d} (g:∀b,c[a]?=Y b->e b=f b):c.modify a e=c.modify a f:=by grind
theorem hO.entry (d:hO M w t b l c A L) {y x:bH} {K:cn} (m:P.underlying r=Y (.map y x)) (g:P.underlying y=Y (.int K)) (a:Z) {v:t.den} (I:U.length=t.size) (E:aW M w t U v []) (J:∀w,(amN x).run P w=.ok (c9 t U) w):∃(f:bW cp) (n:bp (Z×X×t.den)) (s:amo) (o e:X),(aqb r (.map (Y b)) (.int .i64 a)).run P w=.ok (.tuple #[c9 t s,goInt ((o:X):Z)]) (g7 w b f (bif (gk l a).isSome then c else c+1))/\aW M w t s ((gk l a).getD v) []/\f[e]?=Y (aoZ (.int .i64 a) (c9 t s) o)/\(∀{z:eM->X->Prop},(∀F a,M F a->z F a/\a≠b)->hO z (g7 w b f (bif (gk l a).isSome then c else c+1)) t b (kK l a ((gk l a).getD v)) (bif (gk l a).isSome then c else c+1) f n)/\lA w (g7 w b f (bif (gk l a).isSome then c else c+1)) b:=by
 rcases d.find (P:=P) g a with⟨u,H,q⟩|⟨e,o,R,p,u,H,q,O,B,C⟩
 ·obtain⟨f,n,aB,i,j⟩:=d.update (P:=P) m g a I E;rw[u] at aB i j|-;simp only[apT,bQ,Option.getD_none] at aB i j|-;have bj:(ann r (.map (Y b)) (.int .i64 a) (c9 t U)).run P w=.ok () (g7 w b (A.push ⟨.int .i64 a,c9 t U,c⟩) (c+1)):=by
   simp only[ann,b0,cd m,b4,aod d.h,pq g,q];exact rz d.h
  rw[aB] at bj;simp only[aqc,true_and] at bj;obtain⟨rfl,_⟩:=Mg d.h bj;refine⟨_,n,U,c,A.size,?_,E,by rw[Array.getElem?_push,ay bq],i,j⟩;simp only[aqb,b0,cd m,b4,aod d.h,pq g,q,J,rz d.h,cz];rfl
 obtain⟨f,n,aB,i,j⟩:=d.update (P:=P) m g a q B;rw[u] at aB i j|-;simp only[ao6,bI,xw] at aB i j|-;have D:(an7 (((A[e]?).map (·.key)).getD (.int .i64 a)) (.int .i64 a)).run P w=.ok (.int .i64 a) w:=(by simp_all [an7,apU]);have bj:(ann r (.map (Y b)) (.int .i64 a) (c9 t p)).run P w=.ok () (g7 w b (A.modify e λk=>{k with key:=.int .i64 a,val:=c9 t p}) c):=(by simp only[ann,b0,cd m,b4,aod d.h,pq g,C,D];exact rz d.h);rw[aB] at bj;simp only[aqc,true_and] at bj;obtain⟨rfl,_⟩:=Mg d.h bj;refine⟨_,n,p,o,e,?_,B,ae,i,j⟩;have ar:(A.modify e λk=>{k with key:=.int .i64 a,val:=c9 t p})=A.modify e λk=>{k with key:=.int .i64 a}:=Ra λk Q=>ae;have G:((A[e]?).map λN=>((N.born:X):Z)).getD 0=(o:Z):=ae;simp only[aqb,b0,cd m,b4,aod d.h,pq g,C,D,rz d.h,cz,ar,G];rfl
theorem hO.X8 (f:hO M w t b l c A L) {e:cp} {d:Z} (x:A[a]?=Y e) (ce:e.key=.int .i64 d) {p E:bH} {V:cn} (v:P.underlying r=Y (.map p E)) (k:P.underlying p=Y (.int V)) {D:t.den} (J:U.length=t.size) (T:aW M w t U D []):∃i j,(ard r (.map (Y b)) (.int .i64 (e.born:Z)) (c9 t U)).run P w=.ok () (g7 w b i (bif (gk l d).isSome then c else c+1))/\(∀{q:eM->X->Prop},(∀B d,M B d->q B d/\d≠b)->hO q (g7 w b i (bif (gk l d).isSome then c else c+1)) t b (kK l d D) (bif (gk l d).isSome then c else c+1) i j)/\lA w (g7 w b i (bif (gk l d).isSome then c else c+1)) b:=by
 obtain⟨C,av,y,bs⟩:=f.NU x;have co:C.1=d:=ae;rcases f.find (P:=P) k d with⟨s,u,F⟩|⟨g,cs,cv,ap,s,u,F,a3,a4,G⟩
 ·grind
 obtain rfl:g=a:=f.aib u y aa;obtain⟨i,j,aB,n,o⟩:=f.update (P:=P) v k d J T;rw[s] at aB n o|-;simp only[ao6,bI] at aB n o|-;have R:(an7 (((A[g]?).map (·.key)).getD (.int .i64 d)) (.int .i64 d)).run P w=.ok (.int .i64 d) w:=(by simp_all [an7,apU]);have bj:(ann r (.map (Y b)) (.int .i64 d) (c9 t U)).run P w=.ok () (g7 w b (A.modify g λe=>{e with key:=.int .i64 d,val:=c9 t U}) c):=(by simp only[ann,b0,cd v,b4,aod f.h,pq k,G,R];exact rz f.h);rw[aB] at bj;simp only[aqc,true_and] at bj;obtain⟨rfl,_⟩:=Mg f.h bj;refine⟨_,j,?_,n,o⟩;have ar:(A.modify g λe=>{e with key:=.int .i64 d,val:=c9 t U})=A.modify g λe=>{e with val:=c9 t U}:=Ra λa0 K=>ae;have N:A.findIdx? (λam=>(am.born:Z)==(e.born:Z))=Y g:=by
  rw[Array.findIdx?_eq_some_iff_getElem];have O:=(s7.1 x).1;refine⟨O,?_,λz bx ci=>?_⟩
  ·grind
  have Q:z<A.size:=aa;obtain⟨ad,an,S,K⟩:=f.NU (CQ Q);have bl:(A[z].born:Z)=(e.born:Z):=ae;have I:ad.2.1=C.2.1:=ae;have:=f.aia S y I;omega
 have H:∀(m:Z) (w:bF),(asInt (.int .i64 m)).run P w=.ok m w:=λm w=>(by simp[asInt,anN]);simp only[ard,b0,cz,b4,aod f.h,H,N,rz f.h,ar];rfl
end
def sD {e:Type} (tt:bp (bH×ak)) (i:bp (X×aI)) (h:X) (g:bH) (l a:ao) (f:cP->bv e):bv e:=
 match l with
 |.ref id c=>match ax i id with
  |some b=>match lP tt g,a with
   |some k,.val (.int .i64) a=>match fE b.1 c with
    |some (
     .mp t)=>match m0 t with
     |some d=>bif bg k t then
      (ip b.1 b.2 c (.mp t)).bind λba=>(uy (α:=t.den) ba a ((gW ba a).getD d)).bind λj=>(nq b.1 b.2 c (.mp t) j).bind λm=>
       f ⟨Y (h,.fx [.val t ((gW (α:=t.den) ba a).getD d),.ent id c a]),[id],[(id,c++[.deref])],[(id,⟨b.1,m⟩)]⟩
      else br
     |none=>br
    |_=>br
   |_,_=>br
  |none=>br
 |_=>br
def so {b:Type} (tt:bp (bH×ak)) (e:bp (X×aI)) (d:bH) (k i j:ao) (c:cP->bv b):bv b:=
 match k,i with
 |.ref id a,.ent f h g=>bif bL f id&&mP h a then pk tt e d (.ref id a) (.val (.int .i64) g) j c else br
 |_,_=>br
theorem fq.lM:∀{p:bp a6} {τ:ak} {e g:τ.den} {d:ak} {f:d.den},fq τ e p d f g->e2 τ g p d f
 |[],τ,e,g,d,f,c=>by grind [e2.gK,fq.gK]
 |s::p,τ,e,g,d,f,c=>by
  cases τ<;>cases s<;>simp only[fq] at c
  case osl.idx t i=>
   obtain⟨l,h,j,c,rfl⟩:=c;have k:i<e.length:=(iv.1 j).1;exact⟨h,by rw[List.getElem?_set_self k],fq.lM (p:=p) c⟩
  case optr.deref t=>exact fq.lM (p:=p) (τ:=t) c
  case st.unst t=>exact fq.lM (p:=p) (τ:=t) c
  case pr.fst a b=>obtain⟨h,c,rfl⟩:=c;exact fq.lM (p:=p) c
  case pr.snd a b=>obtain⟨h,c,rfl⟩:=c;exact fq.lM (p:=p) c
def Qg:∀a:bp a6,hG (a++[.deref]) a=bt
 |[]=>rfl
 |s::a=>by cases s<;>exact Qg a
theorem ZS (id:X) (a:bp a6):fU [id] [(id,a++[.deref])] (.ref id a)=.ref id a:=by
 have:lQ [(id,a++[.deref])] (.ref id a)=bt:=by
  cases a with
  |nil=>simp[lQ]
  |cons b a=>
   have:=Qg (b::a);simp_all [List.any_cons,List.any_nil,Bool.or_false,an9,aoE,lQ]
 show fv _ _ _=_;unfold fv;rw[show k3 [id] [(id,a++[.deref])] (.ref id a)=lQ [(id,a++[.deref])] (.ref id a) from rfl,this];simp
def ad9 {id:X} (a:aX S n=.ref id j):aX (amO [id] [(id,j++[.deref])] S) n=.ref id j:=by
 cases n with
 |tmp c=>
  have a:gt S c=.ref id j:=a;have b:=q8 [id] [(id,j++[a6.deref])] S c;rw[a] at b;exact b.trans (ZS id j)
 |const d=>exact absurd a (by cases d<;>simp[aX])
 |global S|func e=>cases a
section
variable {E:fP} {C:fg} {st:aR} {o:bU} {Q:aR->Prop}
theorem aaJ {a:Act} (k:cW C i a.tmps v O x y) {id:X} (q:aX i.g N=.ref id j) (d:ax i.h id=Y P) {t:ak} {G:bp (Z×t.den)} (w:e2 P.1 P.2 j (.mp t) (Y (G,m))) {b:X} (E:a.eval N=.map (Y b)) {f:bW cp} (A:v.heap[b]?=Y (.map f m)) {F:X} {c:cp} (z:f[F]?=Y c) {n:Z} (s:c.key=.int .i64 n):c0 (bi O C.B) v i.h x y (.ent id j n) (.int .i64 (c.born:Z)):=by
 have e:=k.aX (a:=a) N;rw[q,E] at e;generalize M:an8 (Y b)=T at e;cases e with|ref o l=>
 rename_i S U R J;rw[d] at o;obtain rfl:=gn o;obtain⟨rfl,L,D,_,u⟩:=k.lM d w l;rcases D.K0 with⟨c,_⟩|⟨p,Q,I,K,H,_,rfl,rfl,_⟩
 ·cases c
 have r:b=p:=(by grind [c9]);subst r;exact .ent d l (u b ac) (ow.2 A) z s
theorem aaK {an:Type} {V:an} {x:cP->bv an} {m:bO} (dg:o.op=.mapEntry r m N) (bx:o.dst=Y a) (bs:C.ok a) (d:sD E.tt st.h a r (aX st.g m) (aX st.g N) x=Y V):fi E C o st (λv=>∃D,x D=Y V/\v=D.app st):=by
 rintro j w ⟨p,f7,f1,q⟩ next f0 c2
 have s:=q.aX m;have e:=q.aX N;unfold sD at d;split at d
 case h_2=>cases d
 rename_i id d4 G;split at d
 case h_2=>cases d
 rename_i ap Q;split at d
 case h_2=>cases d
 rename_i ex n bl a3;obtain⟨fz,a0,el,em,eq⟩:=lP.ok bl;split at d
 case h_2=>cases d
 rename_i t d0;split at d
 case h_2=>cases d
 rename_i fl d1;cases M:bg ex t with
 |false=>grind
 |true=>
 rw[M] at d;simp only[bI] at d;obtain⟨ba,co,f⟩:=e3.1 d;obtain⟨f6,k,i⟩:=e3.1 f;obtain⟨am,T,H⟩:=e3.1 i;clear d f i;cases ba with
 |none=>cases k
 |some d5=>
 obtain⟨l,c⟩:=d5;rw[G] at s;rw[a3] at e;generalize S:j.eval m=f9 at s;generalize cv:j.eval N=f5 at e;cases e with|val d9=>
 obtain⟨_,rfl⟩:=d9;cases s with|ref R O=>
 rw[Q] at R;cases R;obtain⟨b,A,L,rfl,f2,J,I,ci⟩:=q.Gb Q O (jo co);have:=O.ty;rw[d0] at this;cases this;obtain⟨f4,ft,fn,fp,fr,fs⟩:=w9 (eq.lay M) d1;have d2:∀w,(amN a0).run E.P w=.ok (c9 t ft.cells.toList) w:=λw=>(by rw[<-fr];simp[amN,am1,fn,fp]);have U:=fs (bi p C.B) w;obtain⟨F,fT,z,v,f3,aB,d6,d7,bj,d8⟩:=I.entry (P:=E.P) el em n U.len U d2;have c1:gW (α:=t.den) (Y (l,c)) n=gk l n:=rfl;rw[c1] at k H;simp only[uy,e9] at k;subst k;generalize(bif (gk l n).isSome then c else c+1)=y at*;generalize(gk l n).getD fl=ad at*;obtain⟨ek,a4,K⟩:=ci (bj (λu N e=>⟨e,J u N e⟩)) d8 (nV T);have ds:(bP j.eval o).run E.P w=.ok (.value (.tuple #[c9 t z,goInt ((v:X):Z)])) (g7 w b F y):=(by simp only[bP,dg,S,cv,b0];have this:∀t:ak,c9 (.mp t) [an8 (Y b)]=.map (Y b):=λ_=>rfl;rw[this,show c9 (.int .i64) [amJ .i64 n]=.int .i64 n from rfl,aB];rfl);unfold amH;rw[ds];show next (j.put o.dst _) _
 rw[bx];have cs:ax ((id,(⟨ap.1,am⟩:aI))::del [id] st.h) id=Y ⟨ap.1,am⟩:=(by rw[eJ,ay bq]);have dl:aW (bi p C.B) (g7 w b F y) t z ad []:=d6.mono (λu N e=>⟨e,G4 (J u N e)⟩) ac;have ce:=aaJ K (ad9 G) cs (fq.lM (nV T)) S (pt I.h) d7 (n:=n) rfl;refine c2 _ _ _ ⟨_,H,?_⟩ rfl ⟨p,ek,a4,K.put bs (av:=.fx [.val t ad,.ent id d4 n]) ?_⟩
 ·rfl
 refine .fx bq (λd3 av f8 f i=>?_)
 match d3 with
 |0=>simp at f i;subst f;subst i;exact .val dl
 |1=>simp at f i;subst f;subst i;exact ce
 |n+2=>grind
theorem Yf {K:Type} {J:K} {u:cP->bv K} {i:bO} (ex:o.op=.entryStore r i n N) (av:o.dst=br) (a:so E.tt st.h r (aX st.g i) (aX st.g n) (aX st.g N) u=Y J):fi E C o st (λn=>∃v,u v=Y J/\n=v.app st):=by
 rintro d w ⟨M,ft,el,e⟩ next ek bx
 have s:=e.aX i;have m:=e.aX n;have q:=e.aX N;unfold so at a;split at a
 case h_2=>cases a
 rename_i id dl cv ds dg T R;cases f:(bL cv id&&mP ds dl) with
 |false=>grind
 |true=>
 rw[f] at a;rw[cJ] at f;obtain rfl:=fJ f.1;obtain rfl:=mP.ok f.2;simp only[bI] at a;unfold pk at a;simp only at a;split at a
 case h_2=>cases a
 rename_i f6 p;split at a
 case h_2=>cases a
 rename_i d6 fs f5 f3 an y S;simp only[ao.val.injEq,heq_eq_eq,true_and] at y;subst y;obtain⟨d7,d9,d4,d5,fT⟩:=lP.ok an;split at a
 case h_2=>cases a
 rename_i t ci;cases ap:bg d6 t with
 |false=>grind
 |true=>
 rw[ap] at a;simp only[bI] at a;split at a
 case h_2=>cases a
 rename_i f2 co;obtain⟨ba,a3,z⟩:=e3.1 a;obtain⟨fr,j,B⟩:=e3.1 z;obtain⟨f4,cs,V⟩:=e3.1 B;clear a z B;cases ba with
 |none=>cases j
 |some d0=>
 obtain⟨l,c⟩:=d0;cases kY co;rw[T] at s;rw[R] at m;rw[S] at q;generalize fp:d.eval i=f1 at s;generalize fl:d.eval n=fz at m;generalize fn:d.eval N=f0 at q;cases q with|val cF=>
 cases m with|ent I bs em G a4 bl=>
 rw[p] at I;cases I;cases s with|ref H k=>
 rw[p] at H;cases H;obtain⟨b,A,L,rfl,eq,ad,D,a0⟩:=e.Gb p k (jo a3);have:=k.ty;rw[ci] at this;cases this;obtain⟨ar,_,x⟩:=k.lj bs;simp only[ij,Value.map.injEq,e9,cf] at x;subst x;rw[ow.2 D.h] at G;cases G;obtain⟨Q,d8,aB,d1,d2⟩:=D.X8 (P:=E.P) a4 bl d4 d5 cF.len cF;simp only[uy,e9] at j;subst j;generalize(bif (gk l dg).isSome then c else c+1)=O at*;obtain⟨d3,U,am⟩:=a0 (d1 (λc2 c1 F=>⟨F,ad c2 c1 F⟩)) d2 (nV cs);unfold amH;have ce:(bP d.eval o).run E.P w=.ok .skip (g7 w b Q O):=(by have this:∀t:ak,c9 (.mp t) [an8 (Y b)]=.map (Y b):=λ_=>rfl;simp_all [b0,bP]);rw[ce];show next (d.put o.dst bY) _
 rw[av];refine bx _ _ _ ⟨_,V,?_⟩ rfl ⟨M,d3,U,am⟩;rfl
end
end
section
structure VQ where
 c:cx
 n:X
 pin:bv amu
 ds:amu
 α:Type
 f:aR->bv α
 g:aR->α->aR
structure g9 where
 tt:bp (bH×ak)
 Hf:bp (X×jO)
 an:bp (X×ak)
 n:X
 pin:amu
 kg:bp (X×ao)
 q5:amw
 ahd:bv ec
 aA:eC
 amn:bp VQ
 wj:bp vr
 eq:eC
def zF (b:b2) (c:bH):Prop:=∃a e d,b.info? c=Y a/\a.size=1/\a.zero=Y e/\e.cells.size=1/\b.underlying c=Y d/\(match d with|.struct _|.array _ _=>bt|_=>bu)=bu
def Bs:bp hB->bp ao->bD
 |.c d _::a,.eG b _::as=>bL b d&&Bs a as
 |.c _ _::_,_=>bu
 |_::a,_::as=>Bs a as
 |_,_=>bt
def uu:bp (X×jO)->X->bp ao->bv jO
 |[],_,_=>br
 |(k,F)::l,f,as=>bif bL k f&&(Bs F.ps as&&(jJ 0 F.ps).isNone) then Y F else uu l f as
theorem KF:∀{e:bp (X×jO)} {c:X} {as:bp ao} {b:jO},uu e c as=Y b->∃d,(d,b)∈e
 |[],_,_,_,a=>by cases a
 |(d,G)::e,c,as,b,a=>by
  simp only[uu] at a;cases f:(bL d c&&(Bs G.ps as&&(jJ 0 G.ps).isNone)) with
  |true=>grind
  |false=>
   rw[f] at a;obtain⟨h,g⟩:=KF a;grind
theorem KG:∀{d:bp (X×jO)} {c:X} {as:bp ao} {b:jO},uu d c as=Y b->jJ 0 b.ps=br
 |[],_,_,_,a=>by cases a
 |(k,G)::d,c,as,b,a=>by
  simp only[uu] at a;cases e:(bL k c&&(Bs G.ps as&&(jJ 0 G.ps).isNone)) with
  |true=>
   simp_all
  |false=>
   rw[e] at a;exact KG a
def v9 (ic:g9) (a:n9) (b:a.den):aR:=⟨ic.kg++pe a.g b,v8 a.h (wa a.g b)⟩
def gM (b:X) (c:amu) (a:X):bD:=cg a b&&!(e6 a c)
def ar (ic:g9) {A:Type} (a:bO->ao) (g:bp (X×aI)) (r:bU) (c:cP->bv A):bv A:=
 match r.dst with
 |none=>match r.op with
  |.store d e v=>sV ic.tt g d (a e) (a v) c
  |.mapUpdate d e o v|.insert d e o v=>pk ic.tt g d (a e) (a o) (a v) c
  |.entryStore d e F v=>so ic.tt g d (a e) (a F) (a v) c
  |.call {callee:=.builtin .delete,args:=xs,argTypes:=s}=>match xs.toList,s.toList with
   |[e,o],[d,_]=>sC ic.tt g d (a e) (a o) c
   |_,_=>br
  |_=>br
 |some b=>
  bif gM ic.n ic.pin b then
  match r.op with
  |.pick y e i=>match a y with
   |.val .bool j=>(match a e,a i with
    |.val k u,.val H v=>match il (τ:=H) k v with
     |some v=>c ⟨Y (b,.val k (bif j then u else v)),[],[],[]⟩
     |none=>br
    |u,v=>match j with
     |true=>c ⟨Y (b,u),[],[],[]⟩
     |false=>c ⟨Y (b,v),[],[],[]⟩)
   |_=>br
  |.call {callee:=.value z,args:=xs,argTypes:=_}=>match a z with
   |.eG l m=>
    match uu ic.Hf l (xs.toList.map a++m) with
    |none=>br
    |some h=>bif bL h.f l then
     k2 g (sX (xs.toList.map a++m) h.ps) h.ps (xs.toList.map a++m) λq=>(h.sem q).bind λj=>bif oh b ⟨[],g⟩ (xs.toList.map a++m) (gX h.ps q j) (jG h.rs (iR h.ps j)) then
      c ⟨Y (b,wQ b (jG h.rs (iR h.ps j))),gF (xs.toList.map a++m) (gX h.ps q j),yE (nk (xs.toList.map a++m) (gX h.ps q j)),kM (xs.toList.map a++m) (gX h.ps q j)++jI b (jE (jG h.rs (iR h.ps j))) 0 (jG h.rs (iR h.ps j))⟩ else br
     else br
   |_=>br
  |.call {callee:=.builtin .append,args:=xs,argTypes:=s}=>match xs.toList,s.toList with
   |[e,i],[d,x]=>bif bL d x then o6 ic.tt ic.an g b d (a e) (a i) c else br
   |_,_=>br
  |.call {callee:=.builtin .copy,args:=xs,argTypes:=s}=>match xs.toList,s.toList with
   |[e,i],[d,_]=>sd ic.tt g b d (a e) (a i) c
   |_,_=>br
  |.assign e=>match a e with
   |.val k i=>c ⟨Y (b,.val k i),[],[],[]⟩
   |.eG l m=>c ⟨Y (b,.eG l m),[],[],[]⟩
   |.addr id E=>c ⟨Y (b,.addr id E),[],[],[]⟩
   |.eI v=>match ax ic.an b with
    |none=>c ⟨Y (b,.eI v),[],[],[]⟩
    |some k=>match k.pure&&qY k v with
     |true=>(jm k v.cells.toList).bind λi=>c ⟨Y (b,.val k i),[],[],[]⟩
     |false=>(qT ic.an g b (.eI v)).bind c
   |v=>(qT ic.an g b v).bind c
  |.build d w=>tC ic.tt ic.an g a b d w.toList c
  |.mapEntry d e o=>sD ic.tt g b d (a e) (a o) c
  |.box d e=>vz ic.tt ic.an g b d (a e) c
  |.buildSlice d C w=>tE ic.tt ic.an g a b d C w.toList c
  |_=>match lm ic.tt ic.an g a b r.op with
   |.ff t=>c ⟨Y (b,t),[],[],[]⟩
   |.opt _ i l=>i.bind λp=>c ⟨Y (b,l p),[],[],[]⟩
   |.new _ i G B=>bif bL B b then i.bind λp=>c ⟨Y (b,.ref b []),[],[],[(b,G p)]⟩ else br
   |.no=>match hp ic.tt ic.an g a b r.op with
    |.ff t D=>c ⟨Y (b,t),[],[],D⟩
    |.part _ I l=>(pick I).bind λp=>c ⟨Y (b,(l p).1),[],[],(l p).2⟩
    |.bad=>br
  else br
def oi (b:bp (X×aI)) (a:amu):bD:=a.all λid=>match ax b id with|some c=>JY c.1|none=>bu
def k0 (ic:g9) {A:Type} (e:bO->ao) (b:bp (X×aI)) (c:bU) (f:cP->bv A):bv A:=
 match nh ic.q5 (wh c) e (s4 c.op) with
 |[]=>ar ic e b c f
 |F=>bif oi b F then ar ic (λh=>i9 b F (e h)) (del F b) c λa=>bif a.keep.all (λg=>!e6 g.1 F) then f ⟨a.d,F++a.S,a.keep,a.put⟩ else br else br
def pj:hB->bD
 |.m _=>bt
 |_=>bu
def Ms (ic:g9) (a:bO->ao) (e:bU):bv (X×bp a6):=match e.op with
 |.call {callee:=.value z,args:=xs,argTypes:=_}=>match a z with
  |.eG d b=>match uu ic.Hf d (xs.toList.map a++b) with
   |some c=>uR (xs.toList.map a++b) (c.ps.map pj)
   |none=>br
  |_=>br
 |_=>br
def Jy (ic:g9) {A:Type} (id:X) (k:a6) (j:bp a6) (c:bO->ao) (l:bp (X×aI)) (p:bU) (r:cP->bv A):bv A:=
 match p.dst with
 |none=>br
 |some g=>
  bif gM ic.n ic.pin g then
  match p.op with
  |.call {callee:=.value m,args:=xs,argTypes:=_}=>match c m with
   |.eG o d=>
    match uu ic.Hf o (xs.toList.map c++d) with
    |none=>br
    |some a=>
     bif bL a.f o then
     match ax l id with
     |none=>br
     |some h=>match fE h.1 (k::j) with
      |none=>br
      |some i=>match ip h.1 h.2 (k::j) i with
       |none=>br
       |some q=>
        match ga ((id,⟨i,q⟩)::del [id] l) (sX (ns id (xs.toList.map c++d) (a.ps.map pj)) a.ps) a.ps (ns id (xs.toList.map c++d) (a.ps.map pj)) with
        |none=>br
        |some e=>(a.sem e).bind λb=>bif oh g ⟨[],(id,⟨i,q⟩)::del [id] l⟩ (ns id (xs.toList.map c++d) (a.ps.map pj)) (gX a.ps e b) (jG a.rs (iR a.ps b))&&(e6 id (gF (ns id (xs.toList.map c++d) (a.ps.map pj)) (gX a.ps e b))&&e6 id (nk (ns id (xs.toList.map c++d) (a.ps.map pj)) (gX a.ps e b))) then
         match ax (kM (ns id (xs.toList.map c++d) (a.ps.map pj)) (gX a.ps e b)++jI g (jE (jG a.rs (iR a.ps b))) 0 (jG a.rs (iR a.ps b))) id with
         |none=>br
         |some s=>match il i s.2 with
          |none=>br
          |some t=>(nq h.1 h.2 (k::j) i t).bind λm=>
           r ⟨Y (g,wQ g (jG a.rs (iR a.ps b))),gF (ns id (xs.toList.map c++d) (a.ps.map pj)) (gX a.ps e b),(id,k::j)::yE (nk (ns id (xs.toList.map c++d) (a.ps.map pj)) (gX a.ps e b)),(id,⟨h.1,m⟩)::(kM (ns id (xs.toList.map c++d) (a.ps.map pj)) (gX a.ps e b)++jI g (jE (jG a.rs (iR a.ps b))) 0 (jG a.rs (iR a.ps b)))⟩
         else br
     else br
   |_=>br
  |_=>br
  else br
def Lb (ic:g9) (b:bO->ao) (c:bU):bv es:=match c.dst,c.op with
 |some a,.binOp .eql d e g _=>match hf ic.tt d,b e,b g with
  |some _,.val (.bc _ h) f,.eI (.slice br 0 0)=>bif gM ic.n ic.pin a then Y (a,cE (α:=h.den) f) else br
  |_,_,_=>br
 |_,_=>br
def Qe (tt:bp (bH×ak)) (a:bH):bD:=match ax tt a with|some (.ptr _ _)=>bt|_=>bu
def La (b:bp (X×aI)):ao->bv bD
 |.val (.ptr _ a) d=>Y (Option.isNone (α:=a.den) d)
 |.ref id c=>match ax b id with
  |some a=>match fE a.1 c with
   |some (.optr _)=>Y bu
   |_=>br
  |none=>br
 |_=>br
def Bt:ak->bD
 |.nil=>bt
 |.pr (.int _) a=>Bt a
 |_=>bu
def ub:(a:ak)->a.den->a.den->bD
 |.pr (.int _) d,b,c=>((b.1:Z)==(c.1:Z))&&ub d b.2 c.2
 |_,_,_=>bt
def Fv (ic:g9) (e:bO->ao) (f:bU):bv (X×bD):=match f.dst,f.op with
 |some d,.binOp .eql c i j _=>match ax ic.tt c,e i,e j with
  |some h,.val (.st a) g,.val k b=>bif e6 c ic.eq&&(Bt a&&(bg h (.st a)&&gM ic.n ic.pin d)) then(il (τ:=k) (.st a) b).map λb=>(d,ub a g b) else br
  |_,_,_=>br
 |_,_=>br
def Cd (ic:g9) (c:bO->ao) (f:bp (X×aI)) (d:bU):bv (X×bD):=match d.dst,d.op with
 |some a,.binOp g e h i _=>match Qe ic.tt e,La f (c h),c i with
  |true,Y b,.eI (.pointer br)=>bif gM ic.n ic.pin a then(match g with
   |.eql=>Y (a,b)
   |.neq=>Y (a,!b)
   |_=>br) else br
  |_,_,_=>br
 |_,_=>br
def Mu (ic:g9) (f:bO->ao) (d:bU):bv (X×vr×Z):=match d.dst,d.op with
 |some c,.indexAddr e (.global h) g=>match ic.wj.find? (λa=>bL a.b h&&bL a.T e),f g with
  |some a,.val (.int _) i=>bif gM ic.n ic.pin c then Y (c,a,i) else br
  |_,_=>br
 |_,_=>br
def i1 (ic:g9) {A:Type} (a:aR) (b:bU) (c:aR->bv A):bv A:=
 match Mu ic (aX a.g) b with
 |some (d,i,f)=>(az i.xs f).bind λn=>c ⟨(d,.val (.ptr .bm (.int i.k)) (Y n))::a.g,a.h⟩
 |none=>match(Cd ic (aX a.g) a.h b).or (Fv ic (aX a.g) b) with
 |some (d,j)=>c ⟨(d,.val .bool j)::a.g,a.h⟩
 |none=>match Lb ic (aX a.g) b with
 |some (d,f)=>BW f (c ⟨(d,.val .bool bt)::a.g,a.h⟩) (c ⟨(d,.val .bool bu)::a.g,a.h⟩)
 |none=>match Ms ic (aX a.g) b with
  |some (id,m::l)=>Jy ic id m l (aX a.g) a.h b λe=>c (e.app a)
  |_=>k0 ic (aX a.g) a.h b λe=>c (e.app a)
def lN (ic:g9) {A:Type} (c:bW bU):amu->aR->(aR->bv A)->bv A
 |[],a,b=>b a
 |i::e,a,b=>match c[i]? with
  |none=>br
  |some f=>match f.guard with
   |none=>i1 ic a f λk=>lN ic c e k b
   |some (
    l,uU)=>match(c[l]?).bind (·.dst),f.dst with
    |some j,Y d=>match gt a.g j with
     |.val .bool m=>bif gM ic.n ic.pin d then
      (match m==uU with
      |true=>i1 ic ⟨(j,.val .bool uU)::a.g,a.h⟩ f λk=>lN ic c e k b
      |false=>lN ic c e ⟨(d,.eI bY)::(j,.val .bool (!uU))::a.g,a.h⟩ b) else br
     |.eI (.tuple _)=>bif gM ic.n ic.pin d then lN ic c e ⟨(d,.eI bY)::a.g,a.h⟩ b else br
     |_=>br
    |_,_=>br
section
variable {E:fP} {C:fg} {ic:g9} {A:Type}
def g9.ah (E:fP) (C:fg) (ic:g9):Prop:=ic.tt=E.tt/\ic.n=C.n/\ic.pin=C.pin/\((∀b∈ic.Hf,aH E b.2)/\vq C ic.ahd/\(∀a∈ic.aA,zF E.P a)/\lY E C.I0 C.w0/\ic.wj=E.glob/\ic.eq=E.eqs)/\qs C ic.kg
theorem gM.ok (b:ic.ah E C) {d:X} (a:gM ic.n ic.pin d=bt):C.ok d:=by obtain⟨_,c,e,_,_⟩:=b;rw[c,e] at a;simp only[gM,cJ] at a;exact⟨ha a.1,λf=>by grind [hH]⟩
def g0.same {e:eB} {d:aR} (l:∀b,gt d.g b=gt i.g b) (c:d.h=i.h) (k:g0 C i e v):g0 C d e v:=by obtain⟨f,m,j,a⟩:=k;exact⟨f,m,j,{a with tree:=by rw[c];exact a.tree,dis:=by rw[c];exact a.dis,tmp:=λb=>by rw[c,l];exact a.tmp b}⟩
def iM.same {f:bW bU} {e:amu} {a b:aR} {c:aR->Prop} (l:∀d,gt b.g d=gt a.g d) (m:b.h=a.h) (j:iM E C f e b c):iM E C f e a c:=
 λi n k=>j i n (k.same l m)
def cP.NH {b:bp (X×bp a6)}:(cP.mk (Y (a,d)) f b e).app i=⟨(a,d)::amO f b i.g,e++del f i.h⟩:=by show aR.mk ((a,d)::ou f b i.g) (e++sn f i.h)=_;rw[uo,yl]
theorem O6 (L:ic.ah E C) {l:bU} {st:aR} {o:cP->bv A} {s:A} (a:ar ic (aX st.g) st.h l o=Y s):fi E C l st (λv=>∃c,o c=Y s/\v=c.app st):=by
 obtain⟨B,d8,d9,dl,_⟩:=id L;unfold ar at a;split at a
 ·rename_i i;split at a
  ·grind [aht,ahs]
  ·grind [Ri]
  ·rename_i p b ad ap e;rw[B] at a;exact Ri (.inr e) i a
  ·grind [Yf]
  ·rename_i x H e;split at a
   case h_2=>cases a
   rename_i b ad p a3 ar S;rw[B] at a;obtain rfl:x=#[b,ad]:=ae;obtain rfl:H=#[p,a3]:=ae;grind [aaC]
  grind
 rename_i z i;cases U:gM ic.n ic.pin z with
 |false=>grind
 |true=>
 rw[U] at a;have j:=gM.ok L U;simp only[bI] at a;split at a
 ·rename_i d5 b m e;split at a
  case h_2=>cases a
  rename_i q K;have d6:∀y,(q=bt->y=aX st.g b)->(q=bu->y=aX st.g m)->o ⟨Y (z,y),[],[],[]⟩=Y s->fi E C l st (λv=>∃c,o c=Y s/\v=c.app st):=by
   clear a;intro y ce ci u;refine ano (an:=ic.an) i j ?_;rw[e];simp only[hp,GF,K];refine⟨q,bq,_,u,?_⟩;cases q
   ·rw[ci bq];rfl
   rw[ce bq];rfl
  split at a
  ·rename_i d4 fl fp ap ek V;split at a
   case h_2=>cases a
   rename_i d3 ds;cases kY ds;grind
  grind
 ·rename_i fn x _ e;split at a
  case h_2=>cases a
  rename_i J am d1;split at a
  ·cases a
  rename_i I co;cases r:bL I.f J with
  |false=>grind
  |true=>
  rw[r] at a;obtain rfl:=fJ r;simp only[bI,oq] at a;obtain⟨d,d7,a⟩:=e3.1 a;obtain⟨q,dg,a⟩:=e3.1 a;cases K:oh z ⟨[],st.h⟩ (x.toList.map (aX st.g)++am) (gX I.ps d q) (jG I.rs (iR I.ps q)) with
  |false=>grind
  |true=>
  rw[K] at a;obtain⟨el,c2⟩:=KF co;obtain⟨cv,c1⟩:=dl.1 _ c2;refine fi.call e d1 i j cv (c1 d q dg) (by grind [KG,Cq]) L.2.2.2.2.1 L.2.2.2.1.2.2.2.1 ?_ K ⟨_,a,?_⟩
  ·grind [q6,Mw]
  rw[cP.NH];rfl
 ·rename_i x H e;split at a
  case h_2=>cases a
  rename_i b m p N ar S;cases r:bL p N with
  |false=>grind
  |true=>
  rw[r] at a;obtain rfl:=fJ r;have bl:x=#[b,m]:=ae;have bs:H=#[p,p]:=ae;grind [Wg]
 ·rename_i x H e;split at a
  case h_2=>cases a
  rename_i b m p N ar S;have bl:x=#[b,m]:=ae;have bs:H=#[p,N]:=ae;grind [fi.copy]
 ·rename_i b e;have O:Kj (aX st.g b)=bt->o ⟨Y (z,aX st.g b),[],[],[]⟩=Y s->fi E C l st (λv=>∃c,o c=Y s/\v=c.app st):=λV u=>by
   refine ano (an:=ic.an) i j ?_;rw[e];simp only[hp,V,bI];exact⟨_,u,bq⟩
  have as:(qT ic.an st.h z (aX st.g b)).bind o=Y s->fi E C l st (λv=>∃c,o c=Y s/\v=c.app st):=λu=>(by obtain⟨c,cs,u⟩:=e3.1 u;exact fi.Wn e i j (Wo cs ⟨c,u,bq⟩));split at a
  ·rename_i d4 m t;exact O (by rw[t];rfl) ae
  ·rename_i J am t;exact O (by rw[t];rfl) ae
  ·rename_i id eq t;rintro d w ⟨a0,d2,bx,D⟩ next a4 Q
   have M:=D.aX b;have R:(bP d.eval l).run E.P w=.ok (.value (d.eval b)) w:=(by simp[bP,e]);unfold amH;rw[R];show next (d.put l.dst (d.eval b)) w
   rw[i];refine Q _ _ _ ⟨_,a,bq⟩ rfl ⟨_,_,_,D.put j ?_⟩;grind
  ·rename_i ap t;split at a
   ·exact O (by rw[t];rfl) ae
   split at a
   ·rename_i T;simp only[cJ] at T;obtain⟨m,d0,a⟩:=e3.1 a;rintro d w ⟨a0,d2,bx,D⟩ next a4 Q
    have M:=D.aX b;have R:(bP d.eval l).run E.P w=.ok (.value (d.eval b)) w:=(by simp[bP,e]);unfold amH;rw[R];show next (d.put l.dst (d.eval b)) w
    rw[i];refine Q _ _ _ ⟨_,a,bq⟩ rfl ⟨_,_,_,D.put j ?_⟩;rw[t] at M;generalize d.eval b=d3 at M;cases M;rw[<-qY.ok T.2];exact .val (qX d0)
   grind
  grind
 ·grind [Wz]
 ·grind [aaK]
 ·grind [WC]
 ·grind [WG]
 split at a
 ·rename_i y k;refine ano (an:=ic.an) i j ?_;rw[<-B];exact JD (by rw[k];exact⟨_,a,bq⟩)
 ·rename_i av m J k;refine ano (an:=ic.an) i j ?_;rw[<-B];obtain⟨G,F,a⟩:=e3.1 a;exact JD (by rw[k];exact⟨G,F,_,a,bq⟩)
 ·rename_i av m ex c k;cases r:bL c z with
  |false=>grind
  |true=>
  rw[r] at a;obtain rfl:=fJ r;obtain⟨G,F,a⟩:=e3.1 a;refine ano (an:=ic.an) i j ?_;rw[<-B];exact JD (by rw[k];exact⟨G,F,_,a,bq⟩)
 refine ano (an:=ic.an) i j ?_;rw[B] at a;split at a
 ·rename_i y em k;rw[k];exact⟨_,a,bq⟩
 ·rename_i av fr J k;rw[k];obtain⟨G,F,a⟩:=e3.1 a;exact⟨G,aeD F,_,a,bq⟩
 grind
theorem fi.mono {P:aR->Prop} (e:fi E C h i P) (j:∀a,P a->u a):fi E C h i u:=
 λc l f next b g=>e c l f next b (λa d m k=>g a d m (j a k))
theorem agx (b:lQ g d=bt):∃id,d.ids=[id]/\∃a∈g,a.1=id:=by
 have e:∀(id:X) (f:X×bp a6->bD),(g.any λa=>bL a.1 id&&f a)=bt->∃a∈g,a.1=id:=(by intro id f k;obtain⟨a,h,i⟩:=qt.1 k;simp only[cJ] at i;grind [anl]);cases d with
 |ref id c=>
  cases c with
  |nil=>
   obtain⟨a,h,j⟩:=qt.1 (show(g.any λa=>bL a.1 id)=bt from b);exact⟨id,bq,a,h,fJ j⟩
  |cons n c=>exact⟨id,bq,e id _ b⟩
 |addr id c|view id c m l=>exact⟨id,bq,e id _ b⟩
 |_=>cases b
theorem Ho:d.fF (f++w)=(d.fF f||d.fF w):=by simp only[amK];rw[xc];simp only[qt,j4];grind [hH,aqd,ape]
theorem Ou {b:bp ao}:(ao.eG a b).fF f=b.any λc=>c.fF f:=by
 show(anA b).any _=_
 induction b with
 |nil=>rfl
 |cons c b d=>grind [anA,amK]
theorem Tq (b:d.fF w=bu):k3 (w++f) g d=k3 f g d:=by
 cases d with
 |eG m p=>
  rw[Ou,u6] at b;rw[xc];simp only[k3,hk];constructor<;>intro i e h<;>have:=i e h<;>rw[Ho,Bool.eq_false_iff.2 (b e h)] at*<;>simpa using this
 |app id q s r c=>
  have j:=MH b;have o:∀a∈c,e6 a (w++f)=e6 a f:=λa k=>(by have n:a∉w:=j a (gH _ k);rw[xc,hH,hH,hl];grind);have l:(c.all λa=>!(e6 a (w++f)))=c.all λa=>!(e6 a f):=ae;grind [k3]
 |_=>rfl
theorem ZM {F S:amu} {keep:bp (X×bp a6)} {a:ao}:fv (F++S) keep a=.dead\/(a.fF F=bu/\fv (F++S) keep a=fv S keep a)\/(k3 (F++S) keep a=bt/\fv (F++S) keep a=a):=by grind [Tq,Ho,k3,fv]
theorem oi.ok (b:oi e f=bt):∀id∈f,∃a,ax e id=Y a/\JY a.1=bt:=by intro id c;have:=hk.1 b id c;grind
theorem O8 (bx:ic.ah E C) {L:bU} {O:cP->bv A} {am:A} (e:k0 ic (aX i.g) i.h L O=Y am):fi E C L i (λN=>∃b,O b=Y am/\N=b.app i):=by
 unfold k0 at e;split at e
 ·grind [O6]
 generalize nh ic.q5 (wh L) (aX i.g) (s4 L.op)=c at e;cases T:oi i.h c with
 |false=>grind
 |true=>
 rw[T] at e;simp only[bI] at e;rw[<-Y3 c i] at e;have m:=O6 (st:=uh c i) bx e;intro j c1 M next an ci
 obtain⟨dg,d5,dl,M⟩:=M;refine m j c1 (M.freeze (oi.ok T)) next an (λd6 ap c2 cs bl a0=>?_)
 obtain⟨b,U,rfl⟩:=cs;cases V:b.keep.all (λl=>!e6 l.1 c) with
 |false=>grind
 |true=>
 rw[V] at U;have V:∀l∈b.keep,l.1∉c:=λl q ce=>(by grind [hH,anK]);refine ci _ ap c2 ⟨_,U,bq⟩ bl (a0.Qx ?_ ?_)
 ·intro B;have r:∀j:ao,fv (c++b.S) b.keep j=.dead\/fv (c++b.S) b.keep j=fv b.S b.keep (he i.h c j):=by
   intro j;rcases ZM (F:=c) (S:=b.S) (keep:=b.keep) (a:=j) with e|⟨m,y⟩|⟨m,y⟩
   ·grind
   ·right;rw[y];rcases ng i.h c j with⟨id,p,rfl,cv,_⟩|⟨_,o⟩|⟨o,_⟩
    ·grind [hH,amK,bV]
    ·grind
    grind
   have co:∀(id:X),(∃k∈b.keep,k.1=id)->e6 id c=bu:=λid ⟨k,z,b⟩=>ae;have u:k3 (c++b.S) b.keep j=k3 b.S b.keep j->∀(id:X),j.ids=[id]->(∃k∈b.keep,k.1=id)->fv (c++b.S) b.keep j=.dead\/fv (c++b.S) b.keep j=fv b.S b.keep (he i.h c j):=by
    intro d0 id d2 z;have ad:j.fF c=bu:=(by grind [amK]);right;rcases ng i.h c j with⟨l,p,rfl,cv,_⟩|⟨_,o⟩|⟨o,_⟩
    ·grind [hH,amK,bV]
    ·grind
    grind [fv,k3]
   have w:∀(id:X) (P:X×bp a6->bD),(b.keep.any λk=>bL k.1 id&&P k)=bt->∃k∈b.keep,k.1=id:=(by intro id P bs;obtain⟨k,z,y⟩:=qt.1 bs;simp only[cJ] at y;grind [anl]);cases j with
   |ref id f=>
    cases f with
    |nil=>
     obtain⟨k,z,G⟩:=qt.1 (show(b.keep.any λk=>bL k.1 id)=bt from m);exact u bq id bq ⟨k,z,fJ G⟩
    |cons N f=>exact u bq id bq (w id _ m)
   |addr id f|view id f D q=>exact u bq id bq (w id _ m)
   |eG t n=>
    have a3:=hk.1 m;have ad:(ao.eG t n).fF c=bu:=(by rw[Ou,u6];grind [agx,Ho,id,amK,ar]);right;rcases ng i.h c (.eG t n) with⟨l,p,aB,_⟩|⟨_,o⟩|⟨o,_⟩
    ·cases aB
    ·grind
    rw[o,y];unfold fv;have ds:k3 b.S b.keep (.eG t n)=bt:=hk.2 λav a4=>(by have G:=a3 av a4;rw[Ho,Bool.not_or,j4,cJ] at G;grind);grind
   |app id f v x s=>
    have R:((s.all λl=>!(e6 l (c++b.S)))&&b.keep.any λk=>bL k.1 id&&lG k.2 f)=bt:=m;rw[cJ] at R;have d1:=co id (w id _ R.2);have ad:(ao.app id f v x s).fF c=bu:=by
     unfold amK;rw[u6];intro l q ce;rcases fH.1 (show l∈id::s from q) with rfl|q
     ·grind
     grind [anK,hH,aqd]
    right;rcases ng i.h c (.app id f v x s) with⟨l,p,aB,_⟩|⟨_,o⟩|⟨o,_⟩
    ·cases aB
    ·grind
    grind [Tq,fv]
   |hY j=>
    have m:lQ b.keep j=bt:=m;cases j with
    |ref id f=>
     cases f with
     |nil=>
      obtain⟨k,z,G⟩:=qt.1 (show(b.keep.any λk=>bL k.1 id)=bt from m);exact u bq id bq ⟨k,z,fJ G⟩
     |cons N f=>exact u bq id bq (w id _ m)
    |addr id f|view id f D q=>exact u bq id bq (w id _ m)
    |_=>cases m
   |_=>cases m
  have d3:∀j:ao,zv (fU (c++b.S) b.keep j) (fU b.S b.keep (i9 i.h c j)):=by
   intro j;cases j with
   |fx n=>
    refine .inr (.inr ⟨_,_,bq,bq,ac,λl k d8 m y=>?_⟩);grind
   |ref id f=>
    have o:=r (.ref id f);have ar:fU b.S b.keep (i9 i.h c (.ref id f))=fv b.S b.keep (he i.h c (.ref id f)):=by show fU b.S b.keep (he i.h c (.ref id f))=_;rcases ng i.h c (.ref id f) with⟨l,p,_,_,_,e⟩|⟨e,_⟩|⟨e,_⟩<;>rw[e]<;>first|rfl|grind [Y4]
    rw[ar];exact o.imp (λe=>e) .inl
   |dead=>exact(r .dead).imp (λe=>e) .inl
   |val v k=>exact .inr (.inl (by
    simp[fv,he,i9,fU,amK,bV]))
   |eI d7=>exact .inr (.inl (by
    simp[fv,he,i9,fU,amK,bV]))
   |addr id f=>
    have ar:fU b.S b.keep (i9 i.h c (.addr id f))=fv b.S b.keep (he i.h c (.addr id f)):=by show fU b.S b.keep (he i.h c (.addr id f))=_;rcases ng i.h c (.addr id f) with⟨l,p,_,_,_,e⟩|⟨e,_⟩|⟨e,_⟩<;>rw[e]<;>first|rfl|grind
    rw[ar];exact(r _).imp (λe=>e) .inl
   |view id f D q=>
    have ar:fU b.S b.keep (i9 i.h c (.view id f D q))=fv b.S b.keep (he i.h c (.view id f D q)):=by show fU b.S b.keep (he i.h c (.view id f D q))=_;rcases ng i.h c (.view id f D q) with⟨l,p,_,_,_,e⟩|⟨e,_⟩|⟨e,_⟩<;>rw[e]<;>first|rfl|grind
    rw[ar];exact(r _).imp (λe=>e) .inl
   |ent id f K=>
    have ar:fU b.S b.keep (i9 i.h c (.ent id f K))=fv b.S b.keep (he i.h c (.ent id f K)):=by show fU b.S b.keep (he i.h c (.ent id f K))=_;rcases ng i.h c (.ent id f K) with⟨l,p,_,_,_,e⟩|⟨e,_⟩|⟨e,_⟩<;>rw[e]<;>first|rfl|grind
    rw[ar];exact(r _).imp (λe=>e) .inl
   |app id f v x s=>
    have ar:fU b.S b.keep (i9 i.h c (.app id f v x s))=fv b.S b.keep (he i.h c (.app id f v x s)):=by show fU b.S b.keep (he i.h c (.app id f v x s))=_;rcases ng i.h c (.app id f v x s) with⟨l,p,_,_,_,e⟩|⟨e,_⟩|⟨e,_⟩<;>rw[e]<;>first|rfl|grind
    rw[ar];exact(r _).imp (λe=>e) .inl
   |agg n=>
    have ar:fU b.S b.keep (i9 i.h c (.agg n))=fv b.S b.keep (he i.h c (.agg n)):=by show fU b.S b.keep (he i.h c (.agg n))=_;rcases ng i.h c (.agg n) with⟨l,p,_,_,_,e⟩|⟨e,_⟩|⟨e,_⟩<;>rw[e]<;>first|rfl|grind
    rw[ar];exact(r _).imp (λe=>e) .inl
   |eG t n=>
    have ar:fU b.S b.keep (i9 i.h c (.eG t n))=fv b.S b.keep (he i.h c (.eG t n)):=by show fU b.S b.keep (he i.h c (.eG t n))=_;rcases ng i.h c (.eG t n) with⟨l,p,_,_,_,e⟩|⟨e,_⟩|⟨e,_⟩<;>rw[e]<;>first|rfl|grind
    rw[ar];exact(r _).imp (λe=>e) .inl
   |hY j=>
    have ar:fU b.S b.keep (i9 i.h c (.hY j))=fv b.S b.keep (he i.h c (.hY j)):=by show fU b.S b.keep (he i.h c (.hY j))=_;rcases ng i.h c (.hY j) with⟨l,p,_,_,_,e⟩|⟨e,_⟩|⟨e,_⟩<;>rw[e]<;>first|rfl|grind
    rw[ar];exact(r _).imp (λe=>e) .inl
  show zv (gt (cP.app ⟨b.d,c++b.S,b.keep,b.put⟩ i).g B) (gt (b.app (uh c i)).g B);obtain⟨J,H,I,d4⟩:=b;cases J with
  |none=>
   show zv (gt (ou (c++H) I i.g) B) (gt (ou H I (uh c i).g) B);grind [uo,q8,FK]
  |some o=>
   obtain⟨J,Q⟩:=o;show zv (gt ((J,Q)::ou (c++H) I i.g) B) (gt ((J,Q)::ou H I (uh c i).g) B);rw[jC,jC];split
   ·exact .inr (.inl bq)
   grind [uo,q8,FK]
 intro id;show ax (b.put++sn (c++b.S) i.h) id=ax (b.put++sn b.S (del c i.h)) id;grind [yl,lp,nO]
theorem XY (m:ic.ah E C) {p:bU} {id:X} {k:a6} (bs:Ms ic (aX i.g) p=Y (id,k::j)) {q:cP->bv A} {y:A} (a:Jy ic id k j (aX i.g) i.h p q=Y y):fi E C p i (λk=>∃r,q r=Y y/\k=r.app i):=by
 have R:=λc=>gM.ok m (d:=c);have M:=m.2.2.2.2.1;have N:=m.2.2.2.1.2.2.2.1;obtain⟨bx,_,_,V,_⟩:=m;unfold Jy at a;split at a
 ·cases a
 rename_i c I;cases w:gM ic.n ic.pin c with
 |false=>grind
 |true=>
 rw[w] at a;have J:=R c w;simp only[bI] at a;split at a
 case h_2=>cases a
 rename_i a4 B cv P;split at a
 case h_2=>cases a
 rename_i F x an;split at a
 ·cases a
 rename_i b G;cases u:bL b.f F with
 |false=>grind
 |true=>
 rw[u] at a;obtain rfl:=fJ u;simp only[bI] at a;split at a
 ·cases a
 rename_i co T;split at a
 ·cases a
 rename_i a3 ce;split at a
 ·cases a
 rename_i av ad;split at a
 ·cases a
 rename_i l bl;obtain⟨e,Q,a⟩:=e3.1 a;have S:uR (B.toList.map (aX i.g)++x) (b.ps.map pj)=Y (id,k::j):=(by grind [Ms]);generalize H:ns id (B.toList.map (aX i.g)++x) (b.ps.map pj)=o at*;cases v:oh c ⟨[],(id,⟨a3,av⟩)::del [id] i.h⟩ o (gX b.ps l e) (jG b.rs (iR b.ps e)) with
 |false=>grind
 |true=>
 rw[v] at a;cases s:e6 id (gF o (gX b.ps l e)) with
 |false=>grind
 |true=>
 rw[s] at a;cases t:e6 id (nk o (gX b.ps l e)) with
 |false=>grind
 |true=>
 rw[t] at a;simp only[Bool.and_self,bI] at a;split at a
 ·cases a
 rename_i cs U;split at a
 ·cases a
 rename_i D am;obtain⟨a0,ap,a⟩:=e3.1 a;obtain⟨ci,O⟩:=KF G;obtain⟨K,L⟩:=V.1 _ O;refine fi.sub P an I J K (L l e Q) (by grind [KG,Cq]) M N T (jo ad) S H.symm ?_ v (hH.1 s) (hH.1 t) (y':=D) (z:=a0) ?_ (nV ap) ⟨_,a,?_⟩
 ·grind [q6,Mw]
 ·rw[U];exact b9 Y (kY am)
 rw[cP.NH]
def agM (b:bF) (e:X) (a:bv ck) (g d:X) (f:p.underlying c=Y (.slice r)):(anM (e+1) c (.slice a g d) (.slice br 0 0)).run p b=.ok a.isNone b:=by cases a<;>simp[anM,cd f]
theorem agK (b:bF) (a:bv ck) (e d:X) (f:p.underlying c=Y (.slice r)):(amI .eql c (.slice a e d) (.slice br 0 0)).run p b=.ok (.bool a.isNone) b:=by simp_all [agM,aov,aow,amI]
theorem aa6 (s:ic.ah E C) {x:bU} (b:Lb ic (aX i.g) x=Y (a,m)):fi E C x i (λR=>∃c:bD,R=⟨(a,.val .bool c)::i.g,i.h⟩/\(c=bt->m=0)):=by
 unfold Lb at b;split at b
 case h_2=>cases b
 rename_i D A j k a3 H J;split at b
 case h_2=>cases b
 rename_i a0 ap z y r F G;cases t:gM ic.n ic.pin D with
 |false=>grind
 |true=>
 rw[t] at b;simp only[bI,e9,iN] at b;obtain⟨rfl,rfl⟩:=b;rw[s.1] at r;obtain⟨_,T,_,K,_⟩:=hf.ok r;rintro e f ⟨S,av,V,l⟩ next U an
 have o:=l.aX j;have p:=l.aX k;rw[F] at o;rw[G] at p;obtain⟨d,u⟩:∃d,d=e.eval j:=⟨_,bq⟩;obtain⟨fy,w⟩:∃d,d=e.eval k:=⟨_,bq⟩;rw[<-u] at o;rw[<-w] at p;cases o with|val O=>cases p with|eI _=>
 obtain⟨_,c,q,rfl,ad,am,_⟩:=O;have L:e.eval j=.slice c (cE (α:=z.den) y) q:=u.symm;have M:e.eval k=.slice br 0 0:=w.symm;have I:∀f,(anx .eql A j k (.slice c (cE (α:=z.den) y) q) (.slice br 0 0)).run E.P f=.ok () f:=λf=>(by unfold anx;simp);refine aoG (Q:=λB N=>B=.val .bool c.isNone/\N=[]) l (.pure (v:=.bool _) (by simp only[bP,J,L,M,b0,I,b4,agK _ _ _ _ K];rfl) (.bool _) ⟨bq,bq⟩) H (gM.ok s t) ?_;grind
def ahJ {d:X} {f:cn} (i:E.P.underlying r=Y (.array d c)) (g:fD E.P (.int f) c) {b:Act} (k:h.op=.indexAddr r (.global m) n) {p:cn} (j:b.eval n=.int p a) (q:a<d):(bP b.eval h).run E.P v=.ok (.value (.pointer (Y ⟨m,0+a*1,br⟩))) v:=by have e:=g.sizeOf v;have o:b.eval (.global m)=.pointer (Y ⟨m,0,br⟩):=rfl;have:(0:Z)<=(a:Z)/\(a:Z)<(d:Z):=⟨aa,aa⟩;have l:(ak.int f).size=1:=rfl;rw[l] at e;simp[bP,k,o,j,Instr.indexAt,an4,anN,cd i,this,e,anw];omega
theorem ahC (e:ic.ah E C) {A:bU} {r:vr} {z f:Z} (c:Mu ic (aX i.g) A=Y (a,r,z)) (U:az r.xs z=Y f):fi E C A i (λan=>an=⟨(a,.val (.ptr .bm (.int r.k)) (Y f))::i.g,i.h⟩):=by
 unfold Mu at c;split at c
 case h_2=>cases c
 rename_i F a0 ce p P R;split at c
 case h_2=>cases c
 rename_i d y q v L;cases w:gM ic.n ic.pin F with
 |false=>grind
 |true=>
 rw[w] at c;simp only[bI,e9,iN] at c;obtain⟨rfl,rfl,rfl⟩:=c;have l:=List.find?_some v;have o:=HM v;rw[cJ] at l;obtain rfl:=fJ l.1;obtain rfl:=fJ l.2;rw[e.2.2.2.1.2.2.2.2.1] at o;obtain⟨av,O,N⟩:=E.gok d o;rintro s c2 ⟨ap,cv,bs,j⟩ next a3 bx
 have m:=j.aX p;rw[L] at m;generalize S:s.eval p=c1 at m;cases m with|val am=>
 obtain⟨_,rfl⟩:=am;obtain⟨ar,J,K⟩:=PR U;obtain⟨_,ad,bl,u,aB,co,B⟩:=j.glob e.2.2.2.2.1 e.2.2.2.1.2.2.2.1 d o;simp only[ij,amE,cf] at u;obtain⟨rfl,_⟩:=u;rcases B with B|⟨a4,ci,t,M,bj⟩
 ·grind
 simp only[e9,amR,cf] at t;obtain⟨rfl,rfl⟩:=t;obtain⟨I,G,H,d3⟩:=bj _ _ K;have T:s.eval p=.int y (q.toNat:X):=(by rw[S];show amJ y q=_;grind);refine aoG (Q:=λD V=>D=.val (.ptr .bm (.int d.k)) (Y f)/\V=[]) j (.pure (ahJ O N R T J) (.val (τ:=.ptr .bm (.int d.k)) (x:=Y f) (cs:=[.pointer (Y ⟨d.b,0+q.toNat*1,br⟩)]) ⟨bq,d.b,_,I,bq,M,G,H,d3⟩) ⟨bq,bq⟩) P (gM.ok e w) ?_;grind
def Ty (b:bF) (d:X) (a:bv ck) (e:p.underlying c=Y (.pointer r)):(anM (d+1) c (.pointer a) (.pointer br)).run p b=.ok a.isNone b:=by cases a<;>simp[anM,cd e]
theorem agL (b:bF) (a:bv ck) (d:p.underlying c=Y (.pointer r)):(amI .eql c (.pointer a) (.pointer br)).run p b=.ok (.bool a.isNone) b:=by simp_all [Ty,aov,aow,amI]
theorem agN (b:bF) (a:bv ck) (d:p.underlying c=Y (.pointer r)):(amI .neq c (.pointer a) (.pointer br)).run p b=.ok (.bool (!a.isNone)) b:=by simp_all [Ty,aov,aow,amI]
theorem aa2 {f:Act} (l:cW C i f.tmps v O x y) {c:bD} (a:La i.h (aX i.g n)=Y c):∃ad:bv ck,f.eval n=.pointer ad/\ad.isNone=c:=by
 have b:=l.aX n;obtain⟨v1,d⟩:∃k,k=f.eval n:=⟨_,bq⟩;rw[<-d] at b;unfold La at a;split at a
 ·rename_i B w k j;rw[j] at b;cases b with|val e=>
  obtain⟨_,e⟩:=e;cases a;cases k with
  |none=>subst e;exact⟨br,d.symm,bq⟩
  |some F=>obtain⟨q,t,r,rfl,_⟩:=e;exact⟨Y ⟨q,t,br⟩,d.symm,bq⟩
 ·rename_i id D j;split at a
  case h_2=>cases a
  rename_i w o;split at a
  case h_2=>cases a
  rename_i E s;cases a;rw[j] at b;cases b with|ref p m=>
  rw[o] at p;cases p;have:=m.ty;rw[s] at this;cases this;obtain⟨c,u,r,rfl,z,A⟩:=qb (l.tree id _ o).1 m;exact⟨Y ⟨c,u,br⟩,d.symm,bq⟩
 grind
theorem aeU (p:ic.ah E C) {F:bU} {m:bD} (b:Cd ic (aX i.g) i.h F=Y (a,m)):fi E C F i (λN=>N=⟨(a,.val .bool m)::i.g,i.h⟩):=by
 unfold Cd at b;split at b
 case h_2=>cases b
 rename_i I d k O f av u y;split at b
 case h_2=>cases b
 rename_i H o J K;cases q:gM ic.n ic.pin I with
 |false=>grind
 |true=>
 rw[q] at b;simp only[bI] at b;have L:∃j,E.P.underlying k=Y (.pointer j):=by
  rw[p.1] at o;unfold Qe at o;split at o
  ·rename_i am ap M;obtain⟨_,j,_,_,_,_,U,_⟩:=E.ok k _ M;grind
  grind
 obtain⟨j,z⟩:=L;rintro t e ⟨R,an,T,c⟩ next S V
 have r:=c.aX f;rw[K] at r;obtain⟨fy,B⟩:∃G,G=t.eval f:=⟨_,bq⟩;rw[<-B] at r;cases r with|eI _=>
 obtain⟨ad,A,x⟩:=aa2 c J;have D:t.eval f=.pointer br:=B.symm;have w:∀d e,(anx d k O f (.pointer ad) (.pointer br)).run E.P e=.ok () e:=λd e=>(by unfold anx;cases d<;>simp);split at b
 ·cases b;refine aoG (Q:=λl s=>l=.val .bool m/\s=[]) c (.pure (v:=.bool _) (by simp only[bP,y,A,D,b0,w,b4,agL _ _ z,x];rfl) (.bool _) ⟨bq,bq⟩) u (gM.ok p q) ?_;grind
 ·cases b;refine aoG (Q:=λl s=>l=.val .bool (!H)/\s=[]) c (.pure (v:=.bool _) (by simp only[bP,y,A,D,b0,w,b4,agN _ _ z,x];rfl) (.bool _) ⟨bq,bq⟩) u (gM.ok p q) ?_;grind
 grind
def Pn {P:b2} {M:eM->X->Prop} {w w0:bF} {d:X}:∀{t:ak} {fs:bp amS} {off:X} {b:amo} {xs ys:eB} {p q:t.den},Bt t=bt->je P t fs off b->(fs.all λf=>f.name !="_")=bt->aW M w0 t (xs.toList.drop off) p []->aW M w0 t (ys.toList.drop off) q []->(aph (d+1) xs ys fs).run P w=.ok (ub t p q) w
 |.nil,[],_,_,_,_,_,_,_,_,_,_,_=>by simp[aph,ub]
 |.nil,_::_,_,_,_,_,_,_,_,c,_,_,_|.pr i e,[],_,_,_,_,_,_,_,c,_,_,_=>c.elim
 |.pr i e,f::fs,off,b,xs,ys,p,q,a,c,h,A,B=>by
  cases i<;>simp only[Bt] at a<;>try (cases a;done)
  rename_i L;obtain⟨v,k,J,_,x⟩:=c;simp only[tc,cJ,bne_iff_ne,ne_eq] at h;obtain⟨G,f2,o,E,m⟩:=A;obtain⟨H,I,r,F,n⟩:=B;obtain⟨rfl,rfl⟩:=apN.1 o.symm;obtain⟨rfl,rfl⟩:=apN.1 r.symm;have j:∀(b:eB) (g:Value),(b.toList.drop off).take 1=[g]->(part f.type b f.offset).run P w=.ok g w:=λb g z=>(by have C:b[off]?=Y g:=(by have:=b9 (·[0]?) z;simpa[ao0,qA] using this);simp only[part,b0,k.isAgg,b4,v,C,p8];rfl);have s:=j xs _ E.2;have u:=j ys _ F.2;obtain⟨K,_,_,_,_,y⟩:=k;have D:=Pn (P:=P) (M:=M) (w:=w) (w0:=w0) (d:=d) (t:=e) (fs:=fs) (off:=off+1) (xs:=xs) (ys:=ys) (p:=p.2) (q:=q.2) a x (by simpa using h.2)
   (by rw[td] at m;exact m) (by rw[td] at n;exact n)
  simp only[aph,h.1,not_false_eq_true,cq,ne_eq,b0,s,u,b4,run_equalIn_int _ _ _ _ _ _ _ y];show Sem.run P (if(!((p.1:Z)==(q.1:Z)))=bt then pure bu else aph (d+1) xs ys fs) w=_;cases l:((p.1:Z)==(q.1:Z)) with
  |true=>
   rw[aw ac,D];show _=are (((p.1:Z)==(q.1:Z))&&ub e p.2 q.2) w;rw[l,aoE]
  |false=>
   rw[ay ac];show _=are (((p.1:Z)==(q.1:Z))&&ub e p.2 q.2) w;rw[l,ap5];rfl
 |.int _,_,_,_,_,_,_,_,a,_,_,_,_|.bool,_,_,_,_,_,_,_,a,_,_,_,_|.str,_,_,_,_,_,_,_,a,_,_,_,_|.bc _ _,_,_,_,_,_,_,_,a,_,_,_,_|.ptr _ _,_,_,_,_,_,_,_,a,_,_,_,_|.osl _,_,_,_,_,_,_,_,a,_,_,_,_|.optr _,_,_,_,_,_,_,_,a,_,_,_,_|.st _,_,_,_,_,_,_,_,a,_,_,_,_|.eO,_,_,_,_,_,_,_,a,_,_,_,_|.mp _,_,_,_,_,_,_,_,a,_,_,_,_|.fd _ _,_,_,_,_,_,_,_,a,_,_,_,_|.fn _ _,_,_,_,_,_,_,_,a,_,_,_,_=>by cases a
theorem Yg (o:ic.ah E C) {H:bU} {w:bD} (b:Fv ic (aX i.g) H=Y (a,w)):fi E C H i (λco=>co=⟨(a,.val .bool w)::i.g,i.h⟩):=by
 unfold Fv at b;split at b
 case h_2=>cases b
 rename_i R c s u d4 ap a0;split at b
 case h_2=>cases b
 rename_i cs e I d6 ds B U V;cases j:e6 c ic.eq&&(Bt e&&(bg cs (.st e)&&gM ic.n ic.pin R)) with
 |false=>rw[j] at b;cases b
 |true=>
 rw[j,bI] at b;obtain⟨J,a3,b⟩:=fQ.1 b;cases b;simp only[cJ] at j;obtain⟨L,M,N,O⟩:=j;rw[o.1] at B;have am:=(E.ok c _ B).lay N;have an:=E.eqok c (by rw[<-o.2.2.2.1.2.2.2.2.2];exact hH.1 L);cases kY a3;obtain⟨_,dl,A,d5,aB,d0,d1,bj,r,bx,d2⟩:=am;obtain⟨ar,S,ad,z,T⟩:=an;rw[r] at z;obtain rfl:A=ad:=(by simpa using z);rintro f k ⟨cv,d3,c2,m⟩ next c1 dg
 have p:=m.aX s;have q:=m.aX u;rw[U] at p;rw[V] at q;obtain⟨v1,F⟩:∃l,l=f.eval s:=⟨_,bq⟩;obtain⟨fy,G⟩:∃l,l=f.eval u:=⟨_,bq⟩;rw[<-F] at p;rw[<-G] at q;cases p with|val ce=>cases q with|val ci=>
 rename_i x y;have a4:f.eval s=.agg x.toArray:=F.symm;have bl:f.eval u=.agg y.toArray:=G.symm;have D:E.P.fieldsOf c=A:=(by unfold Program.fieldsOf;rw[r]);have av:(anM 10000 c (.agg x.toArray) (.agg y.toArray)).run E.P k=.ok (ub e I J) k:=(by rw[run_equalIn_struct k 9999 c _ _ (by rw[D];exact r) ar,D];exact Pn (t:=e) (off:=0) (d:=9998) M bx T (by rw[nC];exact ce) (by rw[nC];exact ci));refine aoG (Q:=λK bs=>K=.val .bool (ub e I J)/\bs=[]) m (.pure (v:=.bool _) (by simp only[bP,a0,a4,bl,b0,run_eqGuard_agg k _ _ _ _ _ _ S,b4,run_eql_struct,av];rfl) (.bool _) ⟨bq,bq⟩) ap (gM.ok o O) ?_;grind
theorem P6 (j:ic.ah E C) {p:bW bU} {m:bU} {q:aR->bv A} {s:A} (k:p[a]?=Y m) (l:lz p i m bt) (c:i1 ic i m q=Y s) (D:∀d,q d=Y s->iM E C p f d u):iM E C p (a::f) i u:=
by
 unfold i1 at c;split at c
 ·rename_i o H y b;obtain⟨J,x,c⟩:=e3.1 c;refine aoe k l ((ahC j b x).mono (λd e=>?_));grind
 split at c
 ·rename_i o n b;have w:Cd ic (aX i.g) i.h m=Y (o,n)\/Fv ic (aX i.g) m=Y (o,n):=by
   cases r:Cd ic (aX i.g) i.h m with
   |none=>rw[r,Option.none_or] at b;exact .inr b
   |some I=>rw[r,Option.some_or] at b;exact .inl b
  rcases w with b|b
  ·refine aoe k l ((aeU j b).mono (λd e=>?_));grind
  refine aoe k l ((Yg j b).mono (λd e=>?_));grind
 split at c
 ·rename_i o y b;obtain⟨z,B⟩:=aa5 c;refine aoe k l ((aa6 j b).mono (λd e=>?_));obtain⟨n,rfl,F⟩:=e;cases n with
  |false|true=>grind
 split at c
 ·rename_i id d G e;exact aoe k l ((XY j e c).mono (λd ⟨t,v,e⟩=>by grind))
 exact aoe k l ((O8 j c).mono (λd ⟨t,v,e⟩=>by grind))
theorem BA {l2:amu} (d:ic.ah E C) {q:bW bU} {s:aR->bv A} {y:A} {t:aR->Prop} (f:∀k,s k=Y y->iM E C q l2 k t):∀{p:amu} {b:aR},lN ic q p b s=Y y->iM E C q (p++l2) b t
 |[],b,a=>f _ a
 |i::p,b,a=>by
  simp only[lN] at a;split at a
  ·cases a
  rename_i H j;split at a
  ·rename_i z;exact P6 d j (by grind [lz]) a (λk c=>BA d f c)
  rename_i G l z;split at a
  case h_2=>cases a
  rename_i v u D x;split at a
  case h_3=>cases a
  case h_2=>
   rename_i I B;cases c:gM ic.n ic.pin u with
   |false=>grind
   |true=>
   rw[c] at a;have o:=gM.ok d c;refine iM.skip j x o ?_ (BA d f a);grind [lz]
  rename_i m B;cases c:gM ic.n ic.pin u with
  |false=>grind
  |true=>
  rw[c] at a;have o:=gM.ok d c;simp only[bI] at a;split at a
  ·rename_i w;obtain rfl:m=l:=ae;have r:∀e,gt (⟨(v,.val .bool m)::b.g,b.h⟩:aR).g e=gt b.g e:=λe=>by
    grind [jC]
   refine iM.same r bq (P6 d j ?_ a (λk c=>BA d f c));grind [lz]
  rename_i w;have F:m=!l:=by cases m<;>cases l<;>first|rfl|cases w
  have r:∀e,gt (⟨(v,.val .bool (!l))::b.g,b.h⟩:aR).g e=gt b.g e:=λe=>(by grind [jC]);refine iM.same r bq (iM.skip j x o ?_ (BA d f a));grind [lz]
theorem Zs (h:ic.ah E C) {c:bW bU} {b:aR->bv A} {d:A} (g:∀a,b a=Y d->u a) (e:lN ic c f i b=Y d):iM E C c f i u:=by have:=BA (l2:=[]) h (λa j=>iM.nil (g a j)) e;grind
end
end
structure ld (s t:aR):Prop where
 g:∀k,gt s.g k=gt t.g k
 h:∀id,ax s.h id=ax t.h id
def ld.refl (a:aR):ld a a:=⟨λ_=>rfl,λ_=>rfl⟩
def ld.symm {c d:aR} (b:ld c d):ld d c:=⟨λa=>(b.g a).symm,λa=>(b.h a).symm⟩
theorem ld.trans {d e f:aR} (b:ld d e) (c:ld e f):ld d f:=⟨λa=>(b.g a).trans (c.g a),λa=>(b.h a).trans (c.h a)⟩
def cP.vv (a:cP) (e:aR) (b:X):gt (a.app e).g b=match a.d with
 |some (c,f)=>if c=b then f else fU a.S a.keep (gt e.g b)
 |none=>fU a.S a.keep (gt e.g b):=by
 obtain⟨c,h,i,k⟩:=a;cases c with
 |none=>
  show gt (ou h i e.g) b=_;rw[uo,q8]
 |some j=>
  obtain⟨c,f⟩:=j;show gt ((c,f)::ou h i e.g) b=_;rw[jC,uo,q8]
theorem cP.tx (a:cP) (b:aR) (id:X):ax (a.app b).h id=(ax a.put id).or (if id∈a.S then br else ax b.h id):=by show ax (a.put++sn a.S b.h) id=_;rw[yl,lp,nO]
def ld.app {c t:aR} (b:ld c t) (a:cP):ld (a.app c) (a.app t):=
 ⟨λd=>by rw[cP.vv,cP.vv,b.g],λd=>by rw[cP.tx,cP.tx,b.h]⟩
def g0.seq {a:fg} {c:aR} {d:eB} (b:ld i c) (e:g0 a i d v):g0 a c d v:=e.less (λf=>.inr (b.g f).symm) (λid=>(b.h id).symm)
def Fp:bv (X×ao)->amq->bD
 |some b,Y a=>bL b.1 a
 |none,br=>bt
 |_,_=>bu
def uG:ao->bD
 |.dead=>bu
 |_=>bt
def qm (b c:amu):bD:=b.all λa=>e6 a c
theorem qm.ok (b:qm f w=bt):∀a∈f,a∈w:=λa c=>hH.1 (hk.1 b a c)
def ql (a:amu):ao->bD
 |.ref id []=>e6 (id+500000) a
 |_=>bu
def yD:Op->bD
 |.move _=>bt
 |_=>bu
def FL:X->bp a6->bv (X×bp a6)
 |k,.snd::a=>FL (k+1) a
 |k,.fst::a=>Y (k,a)
 |_,_=>br
def yv:bp a6->bv (X×bp a6)
 |.deref::.unst::a=>FL 0 a
 |_=>br
def uf (q:bp a6):amq:=match q with
 |[]=>Y 1
 |[.deref]=>Y 2
 |q=>match yv q with
  |some (a,[])=>Y (2*a+4)
  |some (a,_::_)=>Y (2*a+5)
  |none=>br
def sb:ao->bv es
 |.ref id a=>match uf a with
  |some b=>Y (id,b)
  |none=>br
 |.addr id a=>match uf a with
  |some b=>Y (id,b)
  |none=>br
 |.app id a _ _ d=>match e6 id d,yv a with
  |false,Y (c,_)=>Y (id,2*c+5)
  |_,_=>br
 |_=>br
def us (b:amu) (a:ao):bD:=match sb a with
 |some (id,d)=>cg id 500000&&(e6 (id+1000000*d) b&&a.ids.all λc=>bL c id||e6 c b)
 |none=>bu
def y2 (b:bp a6) (a:X):bD:=(bL a 1&&ot b)||((bL a 2&&ot b.tail&&(match b with|.deref::_=>bt|_=>bu))||match yv b with
 |some (c,d)=>b5 4 a&&(!(bL (a/2) (c+2))||(bL (a %2) 0&&ot d))
 |none=>bu)
def tw (a:bO->ao) (b:bU):bv (X×bp a6):=match b.op with
 |.call {callee:=.builtin .append,args:=xs,argTypes:=_}=>match xs.toList with
  |[x,_]=>match a x with
   |.ref id (d::c)=>Y (id,d::c)
   |_=>br
  |_=>br
 |_=>br
def LM (c:amu) (b:bO->ao) (d:bU):bD:=c.all λa=>cg a 1000000||(match tw b d with
 |some (id,e)=>bL (a %1000000) (id+500000)&&(cg id 500000&&y2 e (a/1000000))
 |none=>bu)
def ZR (a:amu) (c:bp (X×bp a6)) (b:amu):bD:=b.all λid=>cg id 500000&&((e6 id a&&(e6 (id+500000) a||lQ c (.ref id [])))||e6 (id+1500000) a)
def Di:ao->bD
 |.fx b=>b.all uG
 |a=>uG a
def pn (op:Op) (b:amu) (a:ao):bD:=match op with
 |.extract _ d=>match a with
  |.fx e=>match e[d]? with
   |some c=>uG c&&(qm c.ids b||ql b c)
   |none=>bu
  |_=>bu
 |op=>Di a&&(qm a.ids b||((yD op&&ql b a)||us b a))
def sq (c e:amu) (g:bO->ao) (f:bU) (b:cP):bD:=
 Fp b.d f.dst&&(f.op.operands.toList.all λh=>pn f.op c (g h))&&ZR e b.keep b.S&&(b.put.all λa=>cg a.1 500000&&(e6 a.1 e||e6 (a.1+1500000) e))&&((match b.d with|some a=>qm a.2.ids c||(ql c a.2||us c a.2)|none=>bt)&&LM e g f)
theorem sc {e:Type} (c:bD) (d:bv b) (a:b->bv e):(bif c then d else br).bind a=bif c then d.bind a else br:=by grind
theorem ahq (tt:bp (bH×ak)) (d:bp (X×aI)) (c:bH) (f e:ao) (a:cP->bv b):sV tt d c f e a=(sV tt d c f e Y).bind a:=by
 unfold sV;split
 ·rfl
 split
 case h_2=>rfl
 split
 ·rfl
 rw[sc];congr 1;split
 ·grind
 ·grind
 grind
theorem K1 (tt:bp (bH×ak)) (d:bp (X×aI)) (c:bH) (g e f:ao) (a:cP->bv b):pk tt d c g e f a=(pk tt d c g e f Y).bind a:=by
 unfold pk;split
 case h_2=>rfl
 split
 case h_2=>rfl
 split
 case h_2=>rfl
 split
 case h_2=>rfl
 grind
theorem aaH (tt:bp (bH×ak)) (e:bp (X×aI)) (d:X) (c:bH) (g f:ao) (a:cP->bv b):sD tt e d c g f a=(sD tt e d c g f Y).bind a:=by
 unfold sD;split
 case h_2=>rfl
 split
 case h_2=>rfl
 split
 case h_2=>rfl
 split
 case h_2=>rfl
 split
 case h_2=>rfl
 grind
theorem Yd (tt:bp (bH×ak)) (d:bp (X×aI)) (c:bH) (g e f:ao) (a:cP->bv b):so tt d c g e f a=(so tt d c g e f Y).bind a:=by
 unfold so;split
 case h_2=>rfl
 rw[sc,K1]
theorem aaA (tt:bp (bH×ak)) (d:bp (X×aI)) (c:bH) (f e:ao) (a:cP->bv b):sC tt d c f e a=(sC tt d c f e Y).bind a:=by
 unfold sC;split
 case h_2=>rfl
 split
 case h_2=>rfl
 split
 case h_2=>rfl
 split
 case h_2=>rfl
 grind
theorem Wb (tt:bp (bH×ak)) (d:bp (X×ak)) (f:bp (X×aI)) (e:X) (c:bH) (g h:ao) (a:cP->bv b):pW tt d f e c g h a=(pW tt d f e c g h Y).bind a:=by
 unfold pW;split
 ·rfl
 split
 ·split
  case h_2=>rfl
  rw[sc];congr 1;split
  ·grind
  grind
 ·split
  case h_2=>rfl
  split
  case h_2=>rfl
  grind
 ·split
  case h_2=>rfl
  grind
 ·grind
 rfl
theorem We (tt:bp (bH×ak)) (d:bp (X×ak)) (f:bp (X×aI)) (e:X) (c:bH) (g h:ao) (a:cP->bv b):o6 tt d f e c g h a=(o6 tt d f e c g h Y).bind a:=by
 unfold o6;split
 ·unfold Ac;split
  case h_2=>rfl
  split
  case h_2=>rfl
  grind
 grind [Wb]
theorem Xs (tt:bp (bH×ak)) (e:bp (X×aI)) (d:X) (c:bH) (f g:ao) (a:cP->bv b):sd tt e d c f g a=(sd tt e d c f g Y).bind a:=by
 unfold sd;split
 ·rfl
 split
 ·split
  case h_2=>rfl
  grind
 ·split
  case h_2=>rfl
  grind
 rfl
theorem Wy (tt:bp (bH×ak)) (d:bp (X×ak)) (g:bp (X×aI)) (f:bO->ao) (e:X) (c:bH) (h:bp (X×bO)) (a:cP->bv b):tC tt d g f e c h a=(tC tt d g f e c h Y).bind a:=by
 unfold tC;split
 ·rfl
 split
 ·rw[sc];congr 1;split
  ·grind
  rfl
 rw[sc];congr 1;split
 ·rfl
 split
 ·grind
 rfl
theorem WB (tt:bp (bH×ak)) (d:bp (X×ak)) (f:bp (X×aI)) (e:X) (c:bH) (g:ao) (a:cP->bv b):vz tt d f e c g a=(vz tt d f e c g Y).bind a:=by
 unfold vz;split
 ·split
  ·grind
  ·grind
  rfl
 rfl
theorem WF (tt:bp (bH×ak)) (d:bp (X×ak)) (g:bp (X×aI)) (f:bO->ao) (e:X) (c:bH) (h:X) (i:bp (X×bO)) (a:cP->bv b):tE tt d g f e c h i a=(tE tt d g f e c h i Y).bind a:=by
 unfold tE;split
 ·grind
 rfl
theorem Bj {e:g9} (c:bO->ao) (d:bp (X×aI)) (f:bU) (a:cP->bv b):ar e c d f a=(ar e c d f Y).bind a:=by
 unfold ar;split
 ·split
  ·grind [ahq]
  ·grind [K1]
  ·grind [K1]
  ·grind [Yd]
  ·grind [aaA]
  rfl
 rw[sc];congr 1;split
 ·grind
 ·split
  case h_2=>rfl
  split
  ·rfl
  simp_all [oq,Option.bind_assoc,sc,aM]
 ·split
  case h_2=>rfl
  rw[sc];grind [We]
 ·grind [Xs]
 ·split
  ·rfl
  ·rfl
  ·rfl
  ·grind
  grind
 ·grind [Wy]
 ·grind [aaH]
 ·grind [WB]
 ·grind [WF]
 grind
theorem XU {e:g9} (c:bO->ao) (d:bp (X×aI)) (f:bU) (a:cP->bv b):k0 e c d f a=(k0 e c d f Y).bind a:=by
 unfold k0;split
 ·grind [Bj]
 rw[sc];congr 1;refine(Bj _ _ _ _).trans (Eq.trans ?_ (b9 (λg=>bE g a) (Bj _ _ _ _)).symm);grind
theorem PO:∀{d:bp a6} {b a:X} {e:bp a6},FL b d=Y (a,e)->b<=a/\d=bM (a-b) .snd++.fst::e
 |[],_,_,_,c=>by cases c
 |s::d,b,a,e,c=>by
  cases s<;>simp only[FL] at c<;>first|(cases c;done)|skip
  ·simp_all
  obtain⟨g,f⟩:=PO c;refine⟨aa,?_⟩;rw[(aa:a-b=(a-(b+1))+1),List.replicate_succ,kR,<-f]
theorem FM {c:bp a6} (b:yv j=Y (a,c)):j=.deref::.unst::(bM a .snd++.fst::c):=by
 unfold yv at b;split at b
 ·rename_i j;have:=(PO b).2;grind
 grind
def Jt:∀{j k:X} {r r':bp a6},j≠k->lG (bM j .snd++.fst::r) (bM k .snd++.fst::r')=bt
 |0,0,_,_,a=>absurd rfl a
 |0,k+1,_,_,_|j+1,0,_,_,_=>rfl
 |j+1,k+1,r,r',a=>Jt (j:=j) (k:=k) (r:=r) (r':=r') (λb=>a (by rw[b]))
def Qi:∀{j:X} {r:bp a6},hG (bM j .snd++.fst::r) (bM j .snd++[.fst])=ot r
 |0,r=>by cases r<;>rfl
 |j+1,r=>Qi (j:=j) (r:=r)
def Qh (a:bp a6):hG a []=ot a:=by cases a<;>rfl
def aew (c:uf j=Y a):(a=1↔j=[])/\(a=2↔j=[.deref])/\(4<=a->∃d e,yv j=Y (d,e)/\((e=[]/\a=2*d+4)\/(e≠[]/\a=2*d+5)))/\(a=1\/a=2\/4<=a):=by
 unfold uf at c;split at c
 ·cases c;simp
 ·cases c;simp
 rename_i g h;split at c
 ·rename_i d f;cases c;refine⟨⟨λb=>by omega,λb=>absurd b g⟩,⟨λb=>by omega,λb=>absurd b h⟩,λ_=>⟨d,[],f,.inl ⟨bq,bq⟩⟩,aa⟩
 ·rename_i d i e f;cases c;refine⟨⟨λb=>by omega,λb=>absurd b g⟩,⟨λb=>by omega,λb=>absurd b h⟩,λ_=>⟨d,i::e,f,.inr ⟨ac,bq⟩⟩,aa⟩
 cases c
def aex {i:bp a6} (b:y2 j a=bt) (s:uf i=Y a):hG j i=bt:=by
 obtain⟨l,m,n,w⟩:=aew s;unfold y2 at b;rcases CS.1 b with b|b
 ·obtain⟨c,f⟩:=s8.1 b;rw[l.1 (fJ c),Qh];exact f
 rcases CS.1 b with b|b
 ·obtain⟨b,g⟩:=s8.1 b;obtain⟨c,f⟩:=s8.1 b;rw[m.1 (fJ c)];cases j with
  |nil=>cases g
  |cons v j=>
   cases v<;>first|(cases g;done)|skip
   show hG j []=bt;rw[Qh];exact f
 split at b
 ·rename_i d k t;obtain⟨o,b⟩:=s8.1 b;obtain⟨h,u,r,q⟩:=n (ha o);rw[FM r,FM t];show hG (bM d .snd++.fst::k) (bM h .snd++.fst::u)=bt;by_cases c:d=h
  ·subst c;rcases q with⟨rfl,p⟩|⟨x,p⟩
   ·have ar:a/2=d+2:=aa;have e:a %2=0:=aa;rw[ar,e] at b;have:ot k=bt:=(by simpa using b);rw[Qi,this]
   have ar:a/2=d+2:=aa;have e:a %2=1:=aa;rw[ar,e] at b;simp at b
  exact Js (Jt c)
 cases b
theorem aev {id:X} (b:y2 j a=bt) (i:sb d=Y (id,a)) (n:∀c∈d.ids,c=id\/c∉f):k3 f [(id,j),(id,[])] d=bt:=by
 have z:∀h,uf h=Y a->hG j h=bt:=λh p=>aex b p;have v:∀g:X,bL g g=bt:=an9;unfold sb at i;split at i
 ·grind [k3,lQ]
 ·grind [k3,lQ,Ko]
 ·rename_i g h B A l;split at i
  case h_2=>cases i
  rename_i k t x o;cases i;have w:lG j h=bt:=by
   unfold y2 at b;rcases CS.1 b with b|b
   ·have:=fJ (s8.1 b).1;omega
   rcases CS.1 b with b|b
   ·have:=fJ (s8.1 (s8.1 b).1).1;omega
   split at b
   ·rename_i c s q;obtain⟨_,b⟩:=s8.1 b;rw[FM o,FM q];show lG (bM c .snd++.fst::s) (bM k .snd++.fst::t)=bt;by_cases e:c=k
    ·subst e;have ar:(2*c+5)/2=c+2:=aa;have m:(2*c+5) %2=1:=aa;rw[ar,m] at b;simp at b
    exact Jt e
   cases b
  have y:(l.all λg=>!(e6 g f))=bt:=hk.2 λu r=>by
   rcases n u (gH _ r) with e|e
   ·grind [hH]
   grind [hH]
  show((l.all λg=>!(e6 g f))&&([(id,j),(id,[])].any λe=>bL e.1 id&&lG e.2 h))=bt;grind
 grind
section
theorem KY {g B:bO->ao} {b:bp (X×bO)} (d:∀e∈b,g e.2=B e.2):∀(f:ak) (a:X),rf g b f a=rf B b f a
 |.pr j h,a=>by
  simp only[rf,KY d h (a+1)];cases i:mQ b a with
  |none=>rfl
  |some c=>
   have:g c=B c:=d (a,c) (BK i);grind
 |.nil,_|.int _,_|.bool,_|.str,_|.bc _ _,_|.ptr _ _,_|.osl _,_|.optr _,_|.st _,_|.eO,_|.mp _,_|.fd _ _,_|.fn _ _,_=>rfl
theorem Q2 {h:bp (X×aI)} {g B:bO->ao} {b:bp (X×bO)} (d:∀e∈b,g e.2=B e.2):∀(f:ak) (a:X),nQ h g b f a=nQ h B b f a
 |.pr k i,a=>by
  simp only[nQ,Q2 d i (a+1)];cases j:mQ b a with
  |none=>rfl
  |some c=>
   have:g c=B c:=d (a,c) (BK j);grind
 |.nil,_|.int _,_|.bool,_|.str,_|.bc _ _,_|.ptr _ _,_|.osl _,_|.optr _,_|.st _,_|.eO,_|.mp _,_|.fd _ _,_|.fn _ _,_=>rfl
section
variable {tt:bp (bH×ak)} {an:bp (X×ak)} {h A:bp (X×aI)} {d:X} {g B:bO->ao}
theorem Gz {a:eA} (c:∀b∈a.toArray,g b=B b):a.map g=a.map B:=by
 cases a with
 |none=>rfl
 |some b=>grind
theorem Yk {f:Op} (b:∀a∈f.operands,g a=B a):hp tt an h g d f=hp tt an h B d f:=by
 cases f
 case build T ps=>
  have:∀e∈ps.toList,g e.2=B e.2:=λe m=>b e.2 (by simp only[bX,zQ,eT];grind);grind [KY,hp,Al]
 case buildSlice T n ps=>
  have:∀e∈ps.toList,g e.2=B e.2:=λe m=>b e.2 (by simp only[bX,zQ,eT];grind);grind [amU,hp,xP]
 case slice T a j hi p=>
  simp only[bX] at b;have t:g a=B a:=b a ac;have u:j.map g=j.map B:=Gz (λi o=>b i ae);have v:hi.map g=hi.map B:=Gz (λi o=>b i ae);cases p
  ·grind [hp]
  rfl
 case makeMap T q=>
  cases q<;>rfl
 case makeFunc l s cs=>
  cases l<;>try rfl
  grind [amU,anh,hp,bX]
 case call c=>
  obtain⟨r,k,y⟩:=c;have w:∀a∈k.toList,g a=B a:=λa x=>b a (by grind [anh,bX,am6]);clear b;simp only[hp];split
  ·grind
  ·grind [amU]
  ·grind [amU]
  rfl
 all_goals (simp only[bX] at b;simp only[hp])
 all_goals (first|rfl|(simp_all;done))
theorem Yn {e:Op} (b:∀a∈e.operands,g a=B a):lm tt an h g d e=lm tt an h B d e:=by
 cases e
 case slice T a j hi l=>
  simp only[bX] at b;have i:g a=B a:=b a ac;have n:j.map g=j.map B:=Gz (λf k=>b f ae);have o:hi.map g=hi.map B:=Gz (λf k=>b f ae);cases l
  ·simp_all [lm]
  rfl
 case call c=>
  grind [anh,ar,lm,bX,am6]
 case unOp m T a=>
  have i:g a=B a:=b a (by simp[bX]);cases m<;>simp only[lm,i]
 all_goals (simp only[bX] at b;simp only[lm])
 all_goals (first|rfl|(simp_all;done))
theorem O4 {k:g9} {n:bU} {r:cP->bv b} (c:∀j∈n.op.operands,g j=B j):ar k g h n r=ar k B h n r:=by
 have x:=λ(d:X)=>Yn (tt:=k.tt) (an:=k.an) (h:=h) (d:=d) c;have w:=λ(d:X)=>Yk (tt:=k.tt) (an:=k.an) (h:=h) (d:=d) c;unfold ar;cases y:n.dst with
 |none=>
  simp only;split
  ·grind [bX]
  ·grind [bX]
  ·grind [bX]
  ·grind [bX]
  ·rename_i i t e;rw[e] at c;split
   ·rename_i j u l s ar _;have p:∀a∈i.toList,g a=B a:=λa m=>c a (by grind [anh,bX,am6]);grind
   rfl
  rfl
 |some d=>
  simp only;congr 1;split
  ·grind [bX]
  ·rename_i a i _ e;rw[e] at c;have:i.toList.map g=i.toList.map B:=iY λj p=>c j (by grind [anh,bX,am6]);have m:g a=B a:=c a (by simp[bX,am6]);rw[this,m]
  ·rename_i i t e;rw[e] at c;split
   ·rename_i j u l s ar _;have p:∀a∈i.toList,g a=B a:=λa m=>c a (by grind [anh,bX,am6]);grind
   rfl
  ·rename_i i t e;rw[e] at c;split
   ·rename_i j u l s ar _;have p:∀a∈i.toList,g a=B a:=λa m=>c a (by grind [anh,bX,am6]);grind
   rfl
  ·grind [bX]
  ·rename_i l q e;rw[e] at c;have o:∀f∈q.toList,g f.2=B f.2:=λf v=>c f.2 (by simp only[bX,zQ,eT];grind);simp only[tC,KY o,Q2 o]
  ·grind [bX]
  ·grind [bX]
  ·rename_i l z q e;rw[e] at c;have o:∀f∈q.toList,g f.2=B f.2:=λf v=>c f.2 (by simp only[bX,zQ,eT];grind);grind [amU,tE]
  grind
def gy (h A:bp (X×aI)) (a:ao):Prop:=∀id∈a.ids,ax h id=ax A id
def aeG (a:gy h A t):sJ h t=sJ A t:=by
 cases t with
 |ref id b=>simp only[sJ,a id (by simp[bV])]
 |_=>rfl
theorem aeF {id:X} (a:sJ h t=Y (id,j)):id∈t.ids:=by
 unfold sJ at a;split at a
 ·grind [bV]
 ·grind [bV]
 grind
theorem ahr {a:ao} {d:cP->bv b} (e:gy h A a) (g:gy h A t):sV tt h c a t d=sV tt A c a t d:=by
 unfold sV;rw[<-aeG e];split
 ·rfl
 rename_i id j f;rw[e id (aeF f)];cases t with
 |ref i k=>simp only[g i (by simp[bV])]
 |_=>rfl
theorem UU (a:gy h A t):lX h k t=lX A k t:=by
 cases t with
 |ref id b|view id b e d=>simp only[lX,a id (by simp[bV])]
 |val c g=>cases c<;>rfl
 |eI f=>unfold lX;grind
 |_=>rfl
theorem Wc {e:ao} {j:cP->bv b} (f:gy h A e) (k:gy h A t) (n:ax h d=ax A d):pW tt an h d c e t j=pW tt an A d c e t j:=by
 unfold pW;split
 ·rfl
 have g:∀i:ak,lX h i t=lX A i t:=λi=>UU k;cases e with
 |ref id a=>
  cases a with
  |nil=>
   simp only[f id (by simp[bV]),g];cases t with
   |ref o l=>
    cases l with
    |nil=>simp only[k o (by simp[bV])]
    |cons m l=>rfl
   |_=>rfl
  |cons m a=>simp only[f id (by simp[bV]),g,n]
 |view id a q p=>
  cases a with
  |nil=>simp only[f id (by simp[bV]),g]
  |cons m a=>rfl
 |eI r=>grind
 |_=>rfl
def aei {a:ao} (d:gy h A t):wJ h a t=wJ A a t:=by
 unfold wJ;cases a with
 |ref id b=>
  cases b with
  |nil=>rfl
  |cons f b=>
   cases t with
   |ref e c=>
    cases c with
    |nil=>simp only[d e (by simp[bV])]
    |cons g c=>rfl
   |_=>rfl
 |_=>rfl
theorem Wf {a:ao} {e:cP->bv b} (g:gy h A t) (i:gy h A a) (f:ax h d=ax A d):o6 tt an h d c t a e=o6 tt an A d c t a e:=by
 unfold o6;rw[aei i,Wc g i f];split
 ·rename_i id l k m j;obtain⟨rfl,_,_⟩:=LK j;unfold Ac;rw[g id (by simp[bV]),f]
 rfl
theorem Xt {e:ao} {g:cP->bv b} (i:gy h A e) (k:gy h A t):sd tt h d c e t g=sd tt A d c e t g:=by
 unfold sd;split
 ·rfl
 have j:∀f:ak,lX h f t=lX A f t:=λf=>UU k;cases e with
 |ref id a=>
  cases a with
  |nil=>simp only[i id (by simp[bV]),j]
  |cons l a=>rfl
 |view id a n m=>
  cases a with
  |nil=>simp only[i id (by simp[bV]),j]
  |cons l a=>rfl
 |_=>rfl
theorem Ii (b:gy h A t):qT an h d t=qT an A d t:=by
 cases t with
 |ref id a=>
  cases a with
  |nil=>simp only[qT,b id (by simp[bV])]
  |cons c a=>rfl
 |view id a f e=>
  cases a with
  |nil=>simp only[qT,b id (by simp[bV])]
  |cons c a=>rfl
 |eI t=>unfold qT;grind
 |_=>rfl
def aep (b:gy h A t):y0 h k t=y0 A k t:=by
 cases t with
 |ref id a=>
  cases a with
  |nil=>simp only[y0,b id (by simp[bV])]
  |cons c a=>rfl
 |_=>rfl
def Q3 {b:bp (X×bO)} (c:∀i∈b,gy h A (g i.2)):∀(d:ak) (a:X),nQ h g b d a=nQ A g b d a
 |.pr k e,a=>by
  simp only[nQ,Q3 c e (a+1)];cases f:mQ b a with
  |none=>rfl
  |some j=>simp only[aep (c (a,j) (BK f))]
 |.nil,_|.int _,_|.bool,_|.str,_|.bc _ _,_|.ptr _ _,_|.osl _,_|.optr _,_|.st _,_|.eO,_|.mp _,_|.fd _ _,_|.fn _ _,_=>rfl
def W9 (b:gy h A t):vF h k t=vF A k t:=by
 cases t with
 |ref id a=>
  cases a with
  |nil=>simp only[vF,b id (by simp[bV])]
  |cons c a=>rfl
 |_=>rfl
def OB {c:ak}:∀{l:bp ao},(∀a∈l,gy h A a)->vG h c l=vG A c l
 |[],_=>rfl
 |x::d,b=>by simp only[vG,W9 (b x ac),OB (l:=d) (λa e=>b a ae)]
def Ig {v:ao} (a:gy h A v):og h f v k=og A f v k:=by
 cases v with
 |ref id b=>simp only[og,a id (by simp[bV])]
 |_=>rfl
theorem ao.KS {f:X} {a:bp ao} {id:X} (c:t∈a) (e:id∈t.ids):id∈(ao.eG f a).ids:=by obtain⟨b,d,rfl⟩:=hN.1 c;exact ao.BS (l:=a) (i:=b) (cH d) e
def Oe (a:gy h A t):vC h f t k=vC A f t k:=by
 unfold vC;split
 ·rename_i b d;rw[Ig (v:=b) (λid c=>a id (by simpa[bV] using c))]
 exact Ig a
def Og {c:amu}:∀{l:bp ao} {b:ak},(∀a∈l,gy h A a)->tF h c l b=tF A c l b
 |[],b,_=>by cases b<;>rfl
 |a::l,b,d=>by
  cases b<;>first|rfl|skip
  simp only[tF,Oe (d a ac),Og (l:=l) (λa e=>d a (by simp[e]))]
def WU (a:gy h A t):xQ h w t k=xQ A w t k:=by
 unfold xQ;split
 ·rename_i e b i j;rw[Og (l:=b) (λg c id d=>a id (by
   have:=ao.KS (f:=e) c d;simpa[bV] using this))]
 exact Oe a
def PS {b:amu}:∀{τs:bp ak} {avs:bp ao},(∀a∈avs,gy h A a)->p6 h b τs avs=p6 A b τs avs
 |[],[],_|[],_::_,_|_::_,[],_=>rfl
 |τ::e,d::as,c=>by simp only[p6,WU (c d ac),PS (τs:=e) (avs:=as) (λa f=>c a ae)]
theorem uj {S:amu}:∀{ps:bp hB} {avs:bp ao},(∀b∈avs,gy h A b)->ga h S ps avs=ga A S ps avs
 |[],[],_|[],_::_,_=>rfl
 |p::d,[],_=>by cases p<;>rfl
 |.v q::d,e::as,a=>by simp only[ga,Ig (a e ac),uj (ps:=d) (avs:=as) (λb g=>a b ae)]
 |.c z r::d,e::as,a=>by
  have f:=uj (S:=S) (ps:=d) (avs:=as) (λb g=>a b ae);cases e with
  |eG u i=>
   have:p6 h S r i=p6 A S r i:=PS (λb g id t=>a (.eG u i) ac id (ao.KS g t));grind [ga]
  |_=>rfl
 |.m q::d,e::as,a=>by
  have f:=uj (S:=S) (ps:=d) (avs:=as) (λb g=>a b ae);cases e with
  |ref id p=>
   cases p with
   |nil=>simp only[ga,a (.ref id []) ac id (by simp[bV]),f]
   |cons l p=>rfl
  |_=>rfl
 |.o q::d,e::as,a=>by
  have f:=uj (S:=S) (ps:=d) (avs:=as) (λb g=>a b ae);cases e with
  |ref id p=>
   cases p with
   |nil=>simp only[ga,a (.ref id []) ac id (by simp[bV]),f]
   |cons l p=>rfl
  |eI x=>grind [ga]
  |_=>rfl
 |.w B::d,e::as,a=>by
  have f:=uj (S:=S) (ps:=d) (avs:=as) (λb g=>a b ae);cases e with
  |view id p k j=>
   cases p with
   |nil=>simp only[ga,a (.view id [] k j) ac id (by simp[bV]),f]
   |cons l p=>rfl
  |_=>rfl
 |.n::d,e::as,a=>by
  have f:=uj (S:=S) (ps:=d) (avs:=as) (λb g=>a b ae);cases e with
  |eI x=>grind [ga]
  |_=>rfl
 |.s y i::d,e::as,a=>by
  have f:=uj (S:=S) (ps:=d) (avs:=as) (λb g=>a b ae);cases e with
  |ref id p|view id p k j=>grind [ga]
  |_=>simp only[ga,f]
theorem Z9 (a:gy h A t):wq tt h c t=wq tt A c t:=by
 unfold wq;cases t with
 |ref id d|app id d b i e=>simp only[a id (by simp[bV])]
 |val b j=>cases hf tt c with|none=>rfl|some f=>cases b<;>rfl
 |eI g=>grind
 |_=>rfl
theorem aaP (a:gy h A t):wz tt h c t=wz tt A c t:=by
 unfold wz;cases t with
 |ref id d=>simp only[a id (by simp[bV])]
 |val b f=>cases lP tt c with|none=>rfl|some e=>cases b<;>rfl
 |_=>rfl
def aak {a:ao} {b:bD} (d:gy h A t):wv tt h c t a b=wv tt A c t a b:=by
 unfold wv;cases t with
 |ref id f=>simp only[d id (by simp[bV])]
 |val e g=>split<;>first|rfl|(cases e<;>rfl)
 |_=>split<;>rfl
theorem aaN (a:ax h d=ax A d):yR tt an h d c=yR tt an A d c:=by grind [yR]
theorem K2 {a:cP->bv b} {d e:ao} (f:gy h A t):pk tt h c t d e a=pk tt A c t d e a:=by
 unfold pk;cases t with
 |ref id g=>simp only[f id (by simp[bV])]
 |_=>rfl
theorem aaI {a:cP->bv b} {e:ao} (f:gy h A t):sD tt h d c t e a=sD tt A d c t e a:=by
 unfold sD;cases t with
 |ref id g=>simp only[f id (by simp[bV])]
 |_=>rfl
theorem Ye {a:cP->bv b} {d e:ao} (f:gy h A t):so tt h c t d e a=so tt A c t d e a:=by unfold so;grind [K2]
theorem aaB {a:cP->bv b} {d:ao} (e:gy h A t):sC tt h c t d a=sC tt A c t d a:=by
 unfold sC;cases t with
 |ref id f=>simp only[e id (by simp[bV])]
 |_=>rfl
def Zt {b:ao} (a:gy h A t):wk tt h c t b=wk tt A c t b:=by
 unfold wk;cases t with
 |ref id d|view id d g f=>simp only[a id (by simp[bV])]
 |val e j=>cases e<;>rfl
 |eI i|_=>rfl
theorem aah (a:gy h A t):wu tt h c t=wu tt A c t:=by
 unfold wu;cases t with
 |ref id b|addr id b=>simp only[a id (by simp[bV])]
 |val d f=>cases d<;>first|rfl|grind
 |eI e|_=>rfl
theorem YL (b:gy h A t):we tt h c t a=we tt A c t a:=by
 unfold we;cases t with
 |ref id d|addr id d=>simp only[b id (by simp[bV])]
 |val e g=>cases e<;>first|rfl|grind
 |eI f|_=>rfl
def YN (b:gy h A t):j5.yq tt h c t a=j5.yq tt A c t a:=by
 unfold j5.yq;cases t with
 |ref id e=>simp only[b id (by simp[bV])]
 |val d g=>cases d<;>rfl
 |eI f|_=>rfl
def aa3 (a:gy h A t):wD h t=wD A t:=by
 unfold wD;cases t with
 |ref id c=>simp only[a id (by simp[bV])]
 |val b e=>cases b<;>rfl
 |eI d|_=>rfl
def ahb {b a:bv ao} (d:gy h A t):wX tt h c t b a=wX tt A c t b a:=by
 unfold wX;cases t with
 |ref id f=>simp only[d id (by simp[bV])]
 |val e i=>cases e<;>rfl
 |eI g|_=>rfl
theorem aaw {a:ao} (b:ax h d=ax A d):wx tt an h d c a t=wx tt an A d c a t:=by grind [wx]
theorem V6 (a:ax h d=ax A d):xG tt an h d c=xG tt an A d c:=by grind [xG]
theorem Yl {e:Op} (b:∀a∈e.operands,gy h A (g a)) (f:ax h d=ax A d):hp tt an h g d e=hp tt an A g d e:=by
 cases e
 case box T a=>grind [hp,Am]
 case buildSlice T n ps=>grind [hp,xP]
 case alloc T=>exact V6 f
 case makeSlice T l c=>exact aaw f
 case makeMap T p=>
  cases p
  ·exact aaN f
  rfl
 case lookup T a k ok=>exact aak (b a (by simp[bX]))
 case load T a=>exact aah (b a (by simp[bX]))
 case nilCheck a=>exact aa3 (b a (by simp[bX]))
 case indexAddr T a i=>exact Zt (b a (by simp[bX]))
 case fieldAddr T a n=>exact YL (b a (by simp[bX]))
 case field T a n=>exact YN (b a (by simp[bX]))
 case slice T a u hi o=>
  cases o
  ·exact ahb (b a (by simp[bX]))
  rfl
 case call c=>
  obtain⟨q,j,v⟩:=c;have s:∀a∈j.toList,gy h A (g a):=λa t=>b a (by grind [anh,bX,am6]);clear b;simp only[hp];split
  ·grind [aaP,Z9]
  ·rfl
  ·rfl
  rfl
 case makeFunc m r cs=>cases m<;>rfl
 all_goals rfl
theorem Yo {n:Op} (j:∀b∈n.operands,gy h A (g b)) (z:ax h d=ax A d):lm tt an h g d n=lm tt an A g d n:=by
 cases n
 case lookup f b k ok=>
  have a:=j b (by simp[bX]);simp only[lm];split
  ·rename_i w id e B ar r y;rw[r] at a;rw[a id (by simp[bV])]
  rfl
 case makeSlice f l c=>grind [lm]
 case unOp v f b=>cases v<;>rfl
 case indexAddr f b i=>
  have a:=j b (by simp[bX]);simp only[lm];revert a;cases g b with
  |ref id e=>intro a;simp only[a id (by simp[bV])]
  |view id e t s=>
   intro a;cases e with
   |nil=>simp only[a id (by simp[bV])]
   |cons=>rfl
  |val m p=>intro _;cases m<;>rfl
  |_=>intro _;rfl
 case load f b=>
  have a:=j b (by simp[bX]);simp only[lm];revert a;cases g b with
  |ref id e|addr id e=>intro a;simp only[a id (by simp[bV])]
  |val m p=>intro _;cases m<;>rfl
  |_=>intro _;rfl
 case slice f b t s u=>
  have a:=j b (by simp[bX]);cases u
  ·simp only[lm];revert a;cases g b with
   |ref id e=>intro a;simp only[a id (by simp[bV])]
   |val m p=>intro _;cases m<;>rfl
   |_=>intro _;rfl
  rfl
 case call c=>
  obtain⟨x,q,C⟩:=c;have o:∀b∈q.toList,gy h A (g b):=λb a=>j b (by grind [anh,bX,am6]);clear j;simp only[lm];split
  ·rename_i b f ar _;rw[ar] at o;have a:=o b ac;cases hf tt f with
   |none=>
    revert a;cases g b with
    |ref id e=>intro a;simp only;rw[a id (by simp[bV])]
    |_=>intro _;rfl
   |some w=>
    revert a;cases g b with
    |ref id e=>intro a;simp only;rw[a id (by simp[bV])]
    |_=>intro _;rfl
  rfl
 all_goals rfl
theorem uA {b:Callee} {a:bW bO} {c:bW bH} (d:n∈a.toList):n∈(Op.call {callee:=b,args:=a,argTypes:=c}).operands:=by grind [anh,bX,am6]
theorem O5 {t:g9} {s:bU} (a:ar t g h s Y=Y q) (e:∀l∈s.op.operands,gy h A (g l)) (o:∀d,s.dst=Y d->ax h d=ax A d) (p:∀b∈q.put,ax h b.1=ax A b.1):ar t g A s Y=Y q:=by
 unfold ar at a|-;cases v:s.dst with
 |none=>
  rw[v] at a;simp only at a|-;split at a
  ·grind [ahr,bX]
  ·grind [K2,bX]
  ·grind [K2,bX]
  ·grind [Ye,bX]
  ·grind [aaB,uA]
  omega
 |some d=>
  rw[v] at a;have o:=o d v;simp only at a|-;cases G:gM t.n t.pin d with
  |false=>grind
  |true=>
  rw[G] at a;simp only[bI] at a|-;split at a
  ·omega
  ·rename_i J z _ i;rw[i] at e;split at a
   case h_2=>cases a
   rename_i D x I
   try rw[I]
   try simp only
   have F:∀j∈z.toList.map g++x,gy h A j:=λj k=>by
    rcases hl.1 k with k|k
    ·grind [uA]
    intro id N;exact e J (by simp[bX,am6]) id (by grind [ao.KS])
   split at a
   ·cases a
   rename_i c K;cases E:bL c.f D with
   |false=>grind
   |true=>
   rw[E] at a;simp only[bI,oq] at a|-;rw[<-uj F];obtain⟨j,k,a⟩:=e3.1 a;obtain⟨m,H,a⟩:=e3.1 a;simp only[k,H,aM];cases C:oh d ⟨[],h⟩ (z.toList.map g++x) (gX c.ps j m) (jG c.rs (iR c.ps m)) with
   |false=>grind
   |true=>
   rw[C] at a;have L:oh d ⟨[],A⟩ (z.toList.map g++x) (gX c.ps j m) (jG c.rs (iR c.ps m))=bt:=(by rw[<-C];unfold oh;congr 1;rw[xc,hk,hk];cases a;have w:∀b∈jI d (jE (jG c.rs (iR c.ps m))) 0 (jG c.rs (iR c.ps m)),ax h b.1=ax A b.1:=λb w=>p b ae;grind);grind
  ·grind [Wf,uA]
  ·grind [Xt,uA]
  ·rename_i l i;rw[i] at e;have r:=e l (by simp[bX]);revert a r;cases g l with
   |val T S=>grind
   |eI R|ref id u|view id u O M=>grind [Ii]
   |_=>intro a _;exact a
  ·rename_i B y i;rw[i] at e;have p:∀b∈y.toList,gy h A (g b.2):=λb w=>e b.2 (by simp only[bX,zQ,eT];grind);rw[<-a];simp only[tC,Q3 p,o]
  ·grind [aaI,bX]
  ·rename_i B l i;rw[i] at e;have r:=e l (by simp[bX]);rw[<-a];simp only[vz,o];revert r;cases g l with
   |ref id u=>
    intro r;cases u with
    |nil=>simp only[r id (by simp[bV])]
    |cons Q u=>rfl
   |_=>intro _;rfl
  ·rename_i B P y i;rw[i] at e;have p:∀j∈y.toList.map (λb=>g b.2),gy h A j:=λj k=>by
    obtain⟨b,w,rfl⟩:=eT.1 k;exact e b.2 (by simp only[bX,zQ,eT];grind)
   rw[<-a];simp only[tE,OB p,o]
  grind [Yo,Yl]
end
theorem UE {d:Op}:∀e∈s4 d,e∈d.operands:=by
 intro e b;cases d<;>simp only[s4] at b<;>first|(cases b;done)|skip
 case assign y=>grind [bX]
 case box T y=>grind [bX]
 case build T ps=>grind [bX]
 case buildSlice T n ps=>grind [bX]
 case store T a v=>grind [bX]
 case mapUpdate T a k v=>grind [bX]
 case insert T a k v=>grind [bX]
 case entryStore T a k v=>grind [bX]
 case call c=>
  obtain⟨g,f,h⟩:=c;simp only at b;split at b
  ·exact uA b
  ·exact uA (List.mem_of_mem_drop b)
  grind
theorem FJ {e:amw} {f:X} {g:bO->ao}:∀{a:bp bO},∀id∈nh e f g a,∃x∈a,g x=.ref id []
 |[],id,h=>by cases h
 |x::a,id,h=>by
  simp only[nh] at h;split at h
  ·rename_i j i;rw[Bool.cond_eq_ite] at h;split at h
   ·rcases fH.1 h with rfl|h
    ·grind
    obtain⟨d,c,b⟩:=FJ id h;grind
   obtain⟨d,c,b⟩:=FJ id h;grind
  obtain⟨d,c,b⟩:=FJ id h;grind
def PN {a:amw} {c:X} {g B:bO->ao}:∀{l:bp bO},(∀x∈l,g x=B x)->nh a c g l=nh a c B l
 |[],_=>rfl
 |x::l,b=>by simp only[nh,b x ac,PN (l:=l) (λd e=>b d ae)]
theorem PL {h A:bp (X×aI)} (c:∀id∈f,ax h id=ax A id) (a:ao):he h f a=he A f a:=by
 cases a with
 |ref id b=>
  cases b with
  |nil=>
   grind [hH,e6,he]
  |cons d b=>rfl
 |_=>rfl
theorem YZ {h A:bp (X×aI)} (d:∀id∈f,ax h id=ax A id) (a:ao):i9 h f a=i9 A f a:=by
 by_cases c:∃b,a=.fx b
 ·obtain⟨b,rfl⟩:=c;grind [amU,PL,i9]
 grind [JX,PL]
theorem PK {h:bp (X×aI)}:∀id∈(he h f d).ids,id∈d.ids:=by
 intro id b;rcases ng h f d with⟨e,c,rfl,_,_,a⟩|⟨a,_⟩|⟨a,_⟩
 ·rw[a] at b;have:(ss c).ids=[]:=(by unfold ss;split<;>rfl);grind
 ·rw[a] at b;cases b
 grind
def P8 {c:ao->ao} (d:∀a,∀id∈(c a).ids,id∈a.ids):∀{b:bp ao} {id:X},id∈anA (b.map c)->id∈anA b
 |[],_,h=>h
 |a::b,id,h=>by simp only[hA,anA,hl] at h|-;exact h.imp (d a id) (P8 d)
theorem YY {h:bp (X×aI)}:∀id∈(i9 h f d).ids,id∈d.ids:=by
 by_cases c:∃a,d=.fx a
 ·obtain⟨a,rfl⟩:=c;exactλid b=>P8 (λd=>PK) b
 grind [JX,PK]
theorem XW {i:g9} {g B:bO->ao} {h A:bp (X×aI)} {b:bU} (c:k0 i g h b Y=Y q) (o:∀a∈b.op.operands,g a=B a) (n:∀a∈b.op.operands,gy h A (g a)) (t:∀d,b.dst=Y d->ax h d=ax A d) (y:∀l∈q.put,ax h l.1=ax A l.1):k0 i B A b Y=Y q:=by
 unfold k0 at c|-;rw[<-PN (λa f=>o a (UE a f))];split
 ·rename_i j;rw[j] at c;rw[<-O4 o];grind [O5]
 rename_i x;split at c
 ·grind
 have j:∀id∈nh i.q5 (wh b) g (s4 b.op),ax h id=ax A id:=λid k=>(by obtain⟨a,f,q⟩:=FJ id k;exact n a (UE a f) id (by grind [bV]));generalize nh i.q5 (wh b) g (s4 b.op)=e at c j|-;have r:oi A e=oi h e:=(by unfold oi;grind);rw[r];cases s:oi h e with
 |false=>grind
 |true=>
 rw[s] at c;simp only[bI] at c|-;rw[Bj] at c|-;obtain⟨m,p,v⟩:=e3.1 c;have z:m.put=q.put:=ae;have w:ar i (λa=>i9 A e (B a)) (del e A) b Y=Y m:=by
  rw[<-O4 (g:=λa=>i9 h e (g a)) (λa f=>by grind [YZ])];refine O5 p (λa f id k=>?_) (λd u=>?_) (λl C=>?_)
  ·rw[nO,nO,n a f id (YY id k)]
  ·rw[nO,nO,t d u]
  grind [nO]
 grind
end
section
def ru (D:bW bU) (a:X):amu:=match D[a]? with
 |some b=>(b.after.toList.filter (aqe .any)).map (·.on)
 |none=>[]
def zo (a:X):cP:=⟨Y (a,.eI bY),[],[],[]⟩
def Fr (ic:g9) {d:Type} (G C:amu) (a:aR) (c:bU) (e:cP->bv d):bv d:=
 k0 ic (aX a.g) a.h c λb=>bif sq G C (aX a.g) c b then e b else br
def i4 (ic:g9) (D:bW bU) (G C:X->amu) (e:X) (b:aR) (d:cP):Prop:=
 ∃a,D[e]?=Y a/\((lz D b a bt/\k0 ic (aX b.g) b.h a Y=Y d/\sq (G e) (C e) (aX b.g) a d=bt)\/(lz D b a bu/\∃c,a.dst=Y c/\gM ic.n ic.pin c=bt/\d=zo c))
def uk (ic:g9) {k:Type} (D:bW bU) (G C:X->amu):amu->aR->(aR->bv k)->bv k
 |[],a,b=>b a
 |i::e,a,b=>match D[i]? with
  |none=>br
  |some f=>match f.guard with
   |none=>Fr ic (G i) (C i) a f λj=>uk ic D G C e (j.app a) b
   |some (
    l,uU)=>match(D[l]?).bind (·.dst),f.dst with
    |some d,Y c=>match gt a.g d with
     |.val .bool m=>bif gM ic.n ic.pin c then
      (match m==uU with
      |true=>Fr ic (G i) (C i) ⟨(d,.val .bool uU)::a.g,a.h⟩ f λj=>uk ic D G C e (j.app ⟨(d,.val .bool uU)::a.g,a.h⟩) b
      |false=>uk ic D G C e ⟨(c,.eI bY)::(d,.val .bool (!uU))::a.g,a.h⟩ b) else br
     |.eI (.tuple _)=>bif gM ic.n ic.pin c then uk ic D G C e ⟨(c,.eI bY)::a.g,a.h⟩ b else br
     |_=>br
    |_,_=>br
def o1 (ic:g9) (D:bW bU) (G C:X->amu):amu->aR->aR->Prop
 |[],a,b=>ld a b
 |i::d,a,b=>∃c,i4 ic D G C i a c/\o1 ic D G C d (c.app a) b
theorem Wa {tt:bp (bH×ak)} {id:X} {f:a6} (b:o6 tt l e a c (.ref id (f::j)) d Y=Y q):q.keep=[(id,f::j),(id,[])]/\q.S=[id]/\ax q.put id=ax e id:=by
 have o:∀{h:ao} {g:aI},ax e id=Y g->ax e a=br->Y (cP.mk (Y (a,h)) [id] [(id,f::j),(id,[])] [(a,⟨.eO,()⟩),(id,g)])=Y q->q.keep=[(id,f::j),(id,[])]/\q.S=[id]/\ax q.put id=ax e id:=(by intro h g i p k;cases k;have m:¬a=id:=λq=>ae;exact⟨bq,bq,by rw[eJ,aw m,eJ,ay bq,i]⟩);unfold o6 at b;split at b
 ·rename_i r t s u n;obtain⟨ar,_,_⟩:=LK n;cases ar;unfold Ac at b;split at b
  case h_2=>cases b
  grind [anW]
 unfold pW at b;split at b
 ·cases b
 rename_i v _;simp only at b;split at b
 case h_2=>cases b
 grind [anW]
theorem Ie {id:X} (e:tw V h=Y (id,j)):∃d f c g b a,h.op=.call {callee:=.builtin .append,args:=d,argTypes:=f}/\d.toList=[c,g]/\j=b::a/\V c=.ref id (b::a):=by unfold tw at e;grind
theorem O3 {ic:g9} {g:bO->ao} {id:X} {d:bW bO} {o:bW bH} {p:bO} {c:a6} {b:bp a6} (k:h.op=.call {callee:=.builtin .append,args:=d,argTypes:=o}) (m:d.toList=[N,p]) (s:j=c::b) (r:g N=.ref id (c::b)) (a:ar ic g e h Y=Y q):q.keep=[(id,j),(id,[])]/\q.S=[id]/\ax q.put id=ax e id:=by
 unfold ar at a;cases i:h.dst with
 |none=>grind
 |some f=>
  rw[i] at a;simp only at a;cases l:gM ic.n ic.pin f with
  |false=>grind
  |true=>
  rw[l] at a;simp only[bI,k,m] at a;grind [Wa]
theorem O7 {ic:g9} {id:X} (x:tw V h=Y (id,j)) (c:k0 ic V e h Y=Y q):q.keep=[(id,j),(id,[])]/\ax q.put id=ax e id:=by
 obtain⟨M,K,k,N,i,f,p,r,C,o⟩:=Ie x;unfold k0 at c;split at c
 ·grind [O3]
 generalize nh ic.q5 (wh h) V (s4 h.op)=b at c;cases z:oi e b with
 |false=>grind
 |true=>
 rw[z] at c;simp only[bI] at c;rw[Bj] at c;obtain⟨l,a,m⟩:=e3.1 c;cases B:l.keep.all (λs=>!e6 s.1 b) with
 |false=>grind
 |true=>
 rw[B] at m;cases m;have d:i9 e b (.ref id (i::f))=.ref id (i::f)\/i9 e b (.ref id (i::f))=.dead:=by
  rw[JX ae];rcases ng e b (.ref id (i::f)) with⟨s,J,q,_⟩|⟨q,_⟩|⟨q,_⟩
  ·cases q
  ·grind
  grind
 rcases d with d|d
 ·obtain⟨E,_,F⟩:=O3 (g:=λk=>i9 e b (V k)) p r C (by show i9 e b (V k)=_;rw[o];exact d) a;refine⟨E,?_⟩;show ax l.put id=_;rw[F,nO];have I:id∉b:=λH=>by
   grind [hH,anK]
  grind
 exfalso;unfold ar at a;cases A:h.dst with
 |none=>grind
 |some v=>
  rw[A] at a;simp only at a;cases D:gM ic.n ic.pin v with
  |false=>grind
  |true=>
  rw[D] at a;simp only[bI,p,r] at a;split at a
  case h_2=>cases a
  rename_i L O t u w G;cases w;cases y:bL t u with
  |false=>grind
  |true=>
  rw[y] at a;simp only[bI,o,d,o6,wJ,pW] at a;grind
section
variable {ic:g9} {D:bW bU} {G C:X->amu}
theorem Fp.ok {e:bv (X×ao)} {a:amq} (c:Fp e a=bt):∀d b,e=Y (d,b)->a=Y d:=by
 intro d b g;subst g;cases a with
 |none=>cases c
 |some f=>rw[fJ (show bL d f=bt from c)]
theorem O9 {c:bU} {d:cP->bv b} {e:b} (j:Fr ic f w i c d=Y e):∃a,k0 ic (aX i.g) i.h c Y=Y a/\sq f w (aX i.g) c a=bt/\d a=Y e:=by unfold Fr at j;grind [anW,XU]
def nz (b:amu) (a:ao):Prop:=(∀id∈a.ids,id∈b)\/(∃id,a=.ref id []/\id+500000∈b)\/∃id c,sb a=Y (id,c)/\id<500000/\id+1000000*c∈b/\∀d∈a.ids,d=id\/d∈b
theorem us.ok (a:us f d=bt):∃id b,sb d=Y (id,b)/\id<500000/\id+1000000*b∈f/\∀c∈d.ids,c=id\/c∈f:=by
 unfold us at a;split at a
 case h_2=>cases a
 rename_i id b e;simp only[cJ] at a;refine⟨id,b,e,ha a.1,hH.1 a.2.1,λc g=>?_⟩;simp_all [fJ,hH,j4,hk]
theorem ql.ok (a:ql f d=bt):∃id,d=.ref id []/\id+500000∈f:=by unfold ql at a;grind [hH]
theorem nz.ok {c:amu} {b:ao} (a:(qm b.ids c||ql c b)=bt):nz c b:=by
 rcases j4 _ _▸a with a|a
 ·exact .inl (qm.ok a)
 exact .inr (.inl (ql.ok a))
theorem nz.acc (a:(qm d.ids f||(ql f d||us f d))=bt):nz f d:=by
 simp only[j4] at a;rcases a with a|a|a
 ·exact .inl (qm.ok a)
 ·exact .inr (.inl (ql.ok a))
 exact .inr (.inr (us.ok a))
theorem Pw (b:uf j=Y a):1<=a:=by unfold uf at b;grind
theorem W8 {id:X} (b:sb d=Y (id,a)):1<=a:=by
 unfold sb at b;split at b
 ·split at b
  ·rename_i c;cases b;exact Pw c
  grind
 ·split at b
  ·rename_i c;cases b;exact Pw c
  grind
 ·grind
 grind
def Nf (e:Op) (c:amu) (b:ao):Prop:=
 (∃f d g a,e=.extract f d/\b=.fx g/\g[d]?=Y a/\uG a=bt/\nz c a)\/
 ((∀f d,e≠.extract f d)/\Di b=bt/\nz c b/\((∀id∈b.ids,id∈c\/∃a,1<=a/\id<500000/\id+1000000*a∈c)\/yD e=bt))
theorem pn.ok {h:Op} {f:amu} {e:ao} (a:pn h f e=bt):Nf h f e:=by
 unfold pn at a;split at a
 ·rename_i d b;split at a
  case h_2=>cases a
  rename_i q;split at a
  case h_2=>cases a
  rename_i c o;rw[cJ] at a;exact .inl ⟨d,b,q,c,bq,bq,o,a.1,.ok a.2⟩
 rename_i p;simp only[cJ,j4] at a;refine .inr ⟨λd b i=>p d b i,a.1,?_⟩;rcases a.2 with a|⟨a,j⟩|a
 ·exact⟨.inl (qm.ok a),.inl λb g=>.inl (qm.ok a b g)⟩
 ·exact⟨.inr (.inl (ql.ok j)),.inr a⟩
 obtain⟨id,c,k,l,m,n⟩:=us.ok a;refine⟨.inr (.inr ⟨id,c,k,l,m,n⟩),.inl λb g=>?_⟩;grind
theorem sq.ok {i b:amu} {j:bO->ao} {g:bU} {c:cP} (a:sq i b j g c=bt):(∀d f,c.d=Y (d,f)->g.dst=Y d)/\(∀l∈g.op.operands,Nf g.op i (j l))/\(∀id∈c.S,id<500000/\(id∈b/\(id+500000∈b\/lQ c.keep (.ref id [])=bt)\/id+1500000∈b))/\(∀h∈c.put,h.1<500000/\(h.1∈b\/h.1+1500000∈b))/\(∀d f,c.d=Y (d,f)->nz i f)/\(∀e∈b,1000000<=e->∃id k,tw j g=Y (id,k)/\e %1000000=id+500000/\id<500000/\y2 k (e/1000000)=bt):=by
 unfold sq at a;simp only[cJ] at a;obtain⟨⟨⟨⟨m,t⟩,n⟩,o⟩,u,p⟩:=a;refine⟨Fp.ok m,λl y=>?_,λid q=>?_,λh s=>?_,λd f w=>?_,λe r x=>?_⟩
 ·grind [pn.ok,anK]
 ·have:=hk.1 n id q;simp_all [ha,hH,cJ,j4]
 ·have:=hk.1 o h s;simp_all [ha,hH,cJ,j4]
 ·grind [nz.acc]
 have:=hk.1 p e r;rw[j4] at this;rcases this with a|a
 ·have:e<1000000:=ha a;omega
 split at a
 case h_2=>cases a
 rename_i id k v;simp only[cJ] at a;grind [anl,Nat.le_of_ble_eq_true]
def rZ (d:amu) (a c:ao):Prop:=(Di a=bt->nz d a->c=a)/\∀f,a=.fx f->∃g,c=.fx g/\∀(e:X) (b:ao),f[e]?=Y b->uG b=bt->nz d b->g[e]?=Y b
def rZ.refl (a:t=d):rZ f d t:=⟨λ_ _=>a,λc b=>⟨c,by rw[a,b],λ_ _ a _ _=>a⟩⟩
theorem rZ.pn {a:amu} {h:Op} {c d:ao} (e:rZ a c d) (g:pn h a c=bt):j5.pn h a d=bt:=by
 rcases pn.ok g with⟨r,p,k,l,i,b,f,j,n⟩|⟨i,b,f,j⟩
 ·obtain⟨q,m,o⟩:=e.2 k b;grind [j5.pn]
 rw[e.1 b f];exact g
theorem XV {ic:g9} {b:bO->ao} {g:bp (X×aI)} {c f:bp ao} (o:h.op=.extract n a) (m:k0 ic V e h Y=Y q) (i:V n=.fx c) (j:b n=.fx f) (k:c[a]?=Y d) (l:f[a]?=Y d):k0 ic b g h Y=Y q:=by simp_all [lm,hp,Fx,ar,nh,wh,s4,k0]
theorem XX {ic:g9} {a:bO->ao} {d:bp (X×aI)} (b:yD h.op=bt) (f:k0 ic V e h Y=Y q) (g:∀c∈h.op.operands,V c=a c):k0 ic a d h Y=Y q:=by
 unfold yD at b;split at b
 ·simp_all [lm,hp,ar,nh,wh,s4,k0,bX]
 grind
def aaE (b:.tmp a∈h.op.operands):a∈h.looksAt D:=
 oW _ (List.mem_filterMap.2 ⟨.tmp a,ae,bq⟩)
def aaF {b:bD} (c:h.guard=Y (m,b)) (d:(D[m]?).bind (·.dst)=Y a):a∈h.looksAt D:=
 kB _ ae
theorem UK {l:aR} {c:bD} (n:∀k∈h.looksAt D,rZ f (gt i.g k) (gt l.g k)) (a:lz D i h c):lz D l h c:=by
 unfold lz at*;cases d:h.guard with
 |none=>grind
 |some p=>
  obtain⟨o,r⟩:=p;rw[d] at a;simp only at a|-;cases e:(D[o]?).bind (·.dst) with
  |none=>grind
  |some m=>
   rw[e] at a;simp only at a|-;have j:=n m (aaF d e);split at a
   ·rename_i s b;rw[j.1 (by rw[b];rfl) (by rw[b];exact .inl (by simp[bV])),b];exact a
   ·rename_i q b;rw[j.1 (by rw[b];rfl) (by rw[b];exact .inl (by simp[bV])),b];exact a
   grind
theorem i4.congr {f:aR} (e:i4 ic D G C a i q) (m:∀c,D[a]?=Y c->∀o∈c.looksAt D,rZ (G a) (gt i.g o) (gt f.g o)) (w:∀c,D[a]?=Y c->∀id,id∈G a\/id∈C a\/c.dst=Y id->ax i.h id=ax f.h id) (c1:∀id j,1<=j->id<500000->id+1000000*j∈G a->ax i.h id=ax f.h id):i4 ic D G C a f q:=by
 obtain⟨c,x,e⟩:=e;have m:=m c x;have w:=w c x;refine⟨c,x,e.imp (λ⟨s,t,l⟩=>⟨UK m s,?_⟩) (λ⟨s,t⟩=>⟨UK m s,t⟩)⟩;obtain⟨bx,f2,ce,f4,f5,P⟩:=sq.ok l;have n:∀b∈c.op.operands,rZ (G a) (aX i.g b) (aX f.g b):=by
  intro b d;cases b with
  |tmp o=>exact m o (aaE d)
  |const ap=>exact .refl (by cases ap<;>rfl)
  |func bs|global Q=>exact .refl bq
 constructor
 ·by_cases S:∃b F,c.op=.extract b F
  ·obtain⟨b,F,U⟩:=S;have d:b∈c.op.operands:=(by grind [bX]);rcases f2 b d with⟨J,H,y,j,k,r,z,ci,co⟩|⟨k,_⟩
   ·rw[U] at k;cases k;obtain⟨ds,aB,d0⟩:=(n b d).2 y r;grind [XV]
   grind
  have A:∀b∈c.op.operands,Di (aX i.g b)=bt/\nz (G a) (aX i.g b)/\((∀id∈(aX i.g b).ids,id∈G a\/∃j,1<=j/\id<500000/\id+1000000*j∈G a)\/yD c.op=bt):=λb d=>by
   rcases f2 b d with⟨J,H,y,j,k,_⟩|⟨_,Q⟩
   ·grind
   omega
  have v:∀b∈c.op.operands,aX i.g b=aX f.g b:=λb d=>((n b d).1 (A b d).1 (A b d).2.1).symm;by_cases c2:yD c.op=bt
  ·grind [XX]
  have V:∀b∈c.op.operands,∀id∈(aX i.g b).ids,ax i.h id=ax f.h id:=λb d id cv=>ae;refine XW t v V (λO R=>w O (.inr (.inr R))) (λI B=>?_);rcases(f4 I B).2 with e|e
  ·grind
  obtain⟨id,p,K,a3,a4,_⟩:=P _ e aa;have:=(f4 I B).1;obtain⟨av,an,b,a0,am,aB,L,M,_,N⟩:=Ie K;grind [amF,uA,bV]
 unfold sq at*;have:(c.op.operands.toList.all λb=>pn c.op (G a) (aX f.g b))=bt:=(by simp only[cJ] at l;rw[hk];intro b d;exact(n b ae).pn (hk.1 l.1.1.1.2 b d));have cs:∀id p,tw (aX i.g) c=Y (id,p)->tw (aX f.g) c=Y (id,p):=λid p v=>by
  obtain⟨av,an,b,a0,am,aB,L,M,bl,N⟩:=Ie v;have E:b∈c.op.operands:=(by grind [uA]);have dl:aX f.g b=aX i.g b:=by
   rcases f2 b E with⟨J,H,y,j,k,_⟩|⟨_,r,z,_⟩
   ·grind
   exact(n b E).1 r z
  grind [tw]
 have dg:LM (C a) (aX f.g) c=bt:=by
  simp only[cJ] at l;have u:=l.2.2;unfold LM at u|-;rw[hk] at u|-;intro ad T;have:=u ad T;rw[j4] at this|-;refine this.imp (λe=>e) (λe=>?_);split at e
  case h_2=>cases e
  grind
 grind
theorem i4.Fs (g:i4 ic D G C a i q) {r:bU} (F:D[a]?=Y r):(∀f c,q.d=Y (f,c)->r.dst=Y f)/\(∀id∈q.S,id<500000/\(id∈C a/\(id+500000∈C a\/lQ q.keep (.ref id [])=bt)\/id+1500000∈C a))/\(∀k∈q.put,k.1<500000/\(k.1∈C a\/k.1+1500000∈C a))/\(∀f c,q.d=Y (f,c)->nz (G a) c)/\(∀id,id<500000->id+1500000∈C a->ax (q.app i).h id=ax i.h id)/\(∀id b e,id∈q.S->id<500000->id+1000000*b+500000∈C a->1<=b->sb e=Y (id,b)->(∀p∈e.ids,p=id\/p∉q.S)->k3 q.S q.keep e=bt):=by
 obtain⟨L,n,g⟩:=g;rw[F] at n;cases n;rcases g with⟨_,x,g⟩|⟨_,f,A,_,rfl⟩
 ·obtain⟨u,f2,v,f4,f5,w⟩:=sq.ok g;refine⟨u,v,f4,f5,λid B m=>?_,λid b e l B m K z E=>?_⟩
  ·grind [cP.tx,O7]
  obtain⟨o,M,s,H,I,J⟩:=w _ m aa;obtain rfl:o=id:=aa;obtain⟨y,_⟩:=O7 s x;rw[y];refine aev ?_ z E;have:(o+1000000*b+500000)/1000000=b:=aa;grind
 refine⟨λt c j=>?_,by simp[zo],by simp[zo],λt c j=>?_,λid _ _=>rfl,λid b e l=>by cases l⟩
 ·cases j;exact A
 cases j;exact .inl (by simp[bV])
structure zY (f S:amu) (keep:bp (X×bp a6)):Prop where
 a:∀id∈S,id∉f
 b:∀id∈S,id+500000∈f->lQ keep (.ref id [])=bt
 c:∀id∈S,∀c v,1<=c->id<500000->id+1000000*c∈f->sb v=Y (id,c)->(∀j∈v.ids,j=id\/j∉S)->k3 S keep v=bt
theorem F1 (b:amu) (c:bp (X×bp a6)) (a:ao):fv b c a=.dead\/fv b c a=a:=by grind [k3,fv]
theorem Kr (b:uG (fv f g d)=bt):fv f g d=d:=by
 rcases F1 f g d with a|a
 ·rw[a] at b;cases b
 omega
theorem Kq (a:∀id∈d.ids,id∉f):fv f g d=d:=by grind [hH,ap4,Hp,id,amK]
theorem ZN (a:∀id∈d.ids,id∉f):fU f g d=d:=by grind [hH,ap4,MI,id,amK]
theorem Qm (e:nz w d) (i:zY w f g):fv f g d=d:=by
 rcases e with e|⟨id,rfl,e⟩|⟨id,o,k,p,q,l⟩
 ·exact Kq λid s h=>i.a id h (e id s)
 ·by_cases h:id∈f
  ·unfold fv;rw[show k3 f g (.ref id [])=lQ g (.ref id []) from rfl,i.b id h e];simp
  grind [Kq,amF,bV]
 by_cases h:id∈f
 ·unfold fv;rw[i.c id h o d (W8 k) p q k (λn t=>(l n t).imp (λe=>e) (λe h=>i.a n h e))];simp
 exact Kq λm r u=>by
  rcases l m r with j|j
  ·grind
  exact i.a m u j
theorem BF (b:nz w d) (e:zY w f g):fU f g d=d:=by
 cases d with
 |fx k=>
  rcases b with b|⟨id,c,_⟩|⟨id,j,c,_⟩
  ·exact ZN λid h i=>e.a id i (b id h)
  ·cases c
  cases c
 |_=>exact Qm b e
theorem Ql (a:amu) (d:bp (X×bp a6)) (b:amu) (e:bp (X×bp a6)) (c:ao):fv a d (fv b e c)=fv b e (fv a d c):=by grind [F1]
theorem Qk (b:∀a,d≠.fx a):fU f g d=fv f g d:=by
 cases d with
 |fx a=>grind
 |_=>rfl
theorem FZ (b:amu) (d:bp (X×bp a6)) (c:amu) (e:bp (X×bp a6)) (a:ao):fU b d (fU c e a)=fU c e (fU b d a):=by
 by_cases g:∃f,a=.fx f
 ·obtain⟨f,rfl⟩:=g;simp_all [b9,iY,Ql,qD,fU]
 grind [F1,Qk,Ql]
theorem ZP (l d:amu) (e:bp (X×bp a6)) (b:ao):rZ l (fU d e b) b:=by
 by_cases j:∃a,b=.fx a
 ·obtain⟨a,rfl⟩:=j;refine⟨λc _=>?_,λr m=>⟨a,bq,λq o p i _=>?_⟩⟩
  ·simp only[fU] at c|-;have c:∀g∈a.map (fv d e),uG g=bt:=hk.1 c;congr 1;rw[iY (λg n=>Kr (c _ (eT.2 ⟨g,n,bq⟩))),ap6]
  simp only[fU,ao.fx.injEq] at m;grind [Kr,arf]
 have i:∀a,b≠.fx a:=λa f=>j ⟨a,f⟩;rw[Qk i];have h:∀a,fv d e b≠.fx a:=λa f=>(by grind [F1]);refine⟨λc _=>?_,λa f=>absurd f (h a)⟩;have:uG (fv d e b)=bt:=by
  generalize fv d e b=k at c h;cases k with
  |fx a=>grind
  |_=>exact c
 grind [Kr]
theorem ZQ (a:ao) (d:zY w f g):rZ w a (fU f g a):=by refine⟨λ_ c=>BF c d,λk b=>?_⟩;subst b;refine⟨_,bq,λj e h _ i=>?_⟩;grind [Qm]
def NI (e:∀b c,q.d=Y (b,c)->b≠a):gt (q.app i).g a=fU q.S q.keep (gt i.g a):=by
 rw[cP.vv];cases f:q.d with
 |none=>rfl
 |some h=>obtain⟨b,c⟩:=h;simp only;rw[aw (e b c f)]
def aag {c:bp (X×b)} {id:X} (d:∀a∈c,a.1≠id):ax c id=br:=by
 induction c with
 |nil=>rfl
 |cons a c f=>
  obtain⟨g,h⟩:=a;rw[eJ,aw (d (g,h) ac),f (λa e=>d a (by simp[e]))]
def NJ {id:X} (a:id∉q.S) (b:∀c∈q.put,c.1≠id):ax (q.app i).h id=ax i.h id:=by rw[cP.tx,aw a,aag b];rfl
def tT (b c:amu):bD:=b.all λa=>!(e6 a c)
theorem tT.ok (b:tT f w=bt):∀a∈f,a∉w:=λa c d=>by have:=hk.1 b a c;rw[hH.2 d] at this;cases this
def dl (b:bU):amu:=match b.dst with
 |some a=>[a]
 |none=>[]
theorem yP (b:h.dst=Y a):a∈dl h:=by unfold dl;rw[b];simp
def tU (b c:amu):bD:=b.all λa=>b5 1000000 a||!(e6 a c)
theorem tU.ok (a:tU f w=bt):∀b∈f,b<1000000->b∉w:=λb c e d=>by
 have:=hk.1 a b c;rw[hH.2 d,j4] at this;rcases this with a|a
 ·have:=ha a;omega
 cases a
def sw (e d f b:amu):bD:=(b.all λa=>cg a 1000000||(!(e6 (a %1000000-500000) e)&&(!(e6 (a %1000000-500000) d)&&!(e6 (a %1000000-500000) f))))&&d.all λc=>cg c 1000000||(!(e6 (c %1000000) b)&&(!(e6 (c %1000000+1500000) b)||e6 (c+500000) b))
theorem sw.ok {d i:amu} (a:sw d w i f=bt):(∀id,id<500000->id+1500000∈f->id∉d/\id∉w/\id∉i)/\∀id b,1<=b->id<500000->id+1000000*b∈w->id∉f/\(id+1500000∈f->id+1000000*b+500000∈f):=by
 unfold sw at a;rw[cJ] at a;have e:∀{g:X} {h:amu},(!(e6 g h))=bt->g∉h:=λ{g h} a c=>(by rw[hH.2 c] at a;cases a);constructor
 ·intro id k c;have:=hk.1 a.1 _ c;rw[j4] at this;rcases this with a|a
  ·have:id+1500000<1000000:=ha a;omega
  rw[(aa:(id+1500000) %1000000-500000=id)] at a;simp only[cJ] at a;exact⟨e a.1,e a.2.1,e a.2.2⟩
 intro id b l k c;have:=hk.1 a.2 _ c;rw[j4] at this;rcases this with a|a
 ·have:id+1000000*b<1000000:=ha a;omega
 rw[(aa:(id+1000000*b) %1000000=id)] at a;simp only[cJ,j4] at a;refine⟨e a.1,λj=>?_⟩;rcases a.2 with a|a
 ·exact absurd j (e a)
 exact hH.1 a
def vI (D:bW bU) (G C:X->amu) (a b:X):bD:=
 match D[a]?,D[b]? with
 |some d,Y c=>d.apart D c&&tU (C b) (dl d++(G a++C a))&&tU (C a) (dl c++G b)&&(sw (dl d) (G a) (C a) (C b)&&sw (dl c) (G b) (C b) (C a))
 |_,_=>bu
def i4.yM (b:i4 ic D G C a i q) {id:X} (m:500000<=id):ax (q.app i).h id=ax i.h id:=by obtain⟨k,c,j⟩:=b;have b:i4 ic D G C a i q:=⟨k,c,j⟩;obtain⟨_,d,e,_⟩:=b.Fs c;exact NJ (λf=>by have:=(d id f).1;omega) (λl g q=>by have:=(e l g).1;omega)
def i4.uw (d:i4 ic D G C a i q) {id:X} (e:id∉C a):ax (q.app i).h id=ax i.h id:=by
 obtain⟨o,f,n⟩:=d;have d:i4 ic D G C a i q:=⟨o,f,n⟩;obtain⟨_,g,j,_,k,_⟩:=d.Fs f;by_cases c:id<500000/\id+1500000∈C a
 ·exact k id c.1 c.2
 refine NJ (λl=>?_) (λp m q=>?_)
 ·obtain⟨aB,b⟩:=g id l;rcases b with b|b
  ·exact e b.1
  exact c ⟨aB,b⟩
 subst q;obtain⟨aB,b⟩:=j p m;rcases b with b|b
 ·exact e b
 exact c ⟨aB,b⟩
theorem i4.swap {e:cP} (l:vI D G C m a=bt) (o:i4 ic D G C m i e) (B:i4 ic D G C a (e.app i) q):i4 ic D G C a i q/\i4 ic D G C m (q.app i) e/\ld (q.app (e.app i)) (e.app (q.app i)):=by
 unfold vI at l;split at l
 case h_2=>cases l
 rename_i a0 av an am;simp only[cJ] at l;obtain⟨⟨⟨c1,I⟩,J⟩,dl,ds⟩:=l;have I:=tU.ok I;have J:=tU.ok J;obtain⟨cs,T⟩:=sw.ok dl;obtain⟨cv,U⟩:=sw.ok ds;obtain⟨bx,ce,ci⟩:=Oper.apart_spec c1;obtain⟨bl,R,ek,el,em,bs⟩:=o.Fs an;obtain⟨i1,M,d3,d4,d5,ap⟩:=B.Fs am;have d7:∀p∈av.looksAt D,gt (e.app i).g p=fU e.S e.keep (gt i.g p):=λp A=>NI λj w z y=>bx j (bl j w z) (y▸A);have d6:∀p∈a0.looksAt D,gt (q.app i).g p=fU q.S q.keep (gt i.g p):=λp A=>NI λj w z y=>ci j (i1 j w z) (y▸A);have K:∀j F t H,q.d=Y (j,F)->e.d=Y (t,H)->j≠t:=λj F t H z c2 y=>ce t (bl t H c2) (y▸i1 j F z);have E:∀id,id<1000000->id∈G m\/id∈C m\/a0.dst=Y id->id∉C a:=λid h c s=>I id s h (by
  rcases c with c|c|c
  ·simp[c]
  ·simp[c]
  simp[yP c])
 have a4:∀id,id<1000000->id∈G a\/av.dst=Y id->id∉C m:=λid h c s=>J id s h (by
  rcases c with c|c
  ·simp[c]
  simp[yP c])
 have d2:∀id,id<1000000->id∈C a->id∉C m:=λid h c s=>E id h (.inr (.inl s)) c;have d9:zY (G a) e.S e.keep:=by
  refine⟨λid k f=>?_,λid k f=>?_,λid k r Q l n f L x=>?_⟩
  ·obtain⟨aB,b⟩:=R id k;rcases b with b|b
   ·exact a4 id aa (.inl f) b.1
   exact(cv id aB b).2.1 f
  ·obtain⟨aB,b⟩:=R id k;rcases b with b|b
   ·exact b.2.resolve_left (a4 _ aa (.inl f))
   exact bs id 1 (.ref id []) k aB (by rw[(aa:id+1000000*1+500000=id+1500000)];exact b) (bf _) rfl (λd0 x=>.inl (by simpa[bV] using x))
  obtain⟨_,b⟩:=R id k;obtain⟨a3,P⟩:=U id r l n f;rcases b with b|b
  ·exact absurd b.1 a3
  exact bs id r Q k n (P b) l L x
 have d8:zY (G m) q.S q.keep:=by
  refine⟨λid k f=>?_,λid k f=>?_,λid k r Q l n f L x=>?_⟩
  ·obtain⟨aB,b⟩:=M id k;rcases b with b|b
   ·exact E id aa (.inl f) b.1
   exact(cs id aB b).2.1 f
  ·obtain⟨aB,b⟩:=M id k;rcases b with b|b
   ·exact b.2.resolve_left (E _ aa (.inl f))
   exact ap id 1 (.ref id []) k aB (by rw[(aa:id+1000000*1+500000=id+1500000)];exact b) (bf _) rfl (λd0 x=>.inl (by grind [bV]))
  obtain⟨_,b⟩:=M id k;obtain⟨a3,P⟩:=T id r l n f;rcases b with b|b
  ·grind
  exact ap id r Q k n (P b) l L x
 have v:i4 ic D G C a i q:=by
  refine B.congr (λN u p A=>?_) (λN u id n=>?_) (λid r l n f=>?_)
  ·grind [ZP]
  ·rw[am] at u;cases u;rcases c6 id 500000 with h|h
   ·refine o.uw ?_;rcases n with c|c|c
    ·grind
    ·grind
    grind
   exact o.yM h
  exact o.uw (U id r l n f).1
 have pJ:i4 ic D G C m (q.app i) e:=by
  refine o.congr (λN u p A=>?_) (λN u id n=>?_) (λid r l n f=>?_)
  ·grind [ZQ]
  ·rw[an] at u;cases u;rcases c6 id 500000 with h|h
   ·exact(v.uw (E id aa n)).symm
   exact(v.yM h).symm
  exact(v.uw (T id r l n f).1).symm
 refine⟨v,pJ,?_,λid=>?_⟩
 ·intro p;rw[cP.vv q,cP.vv e (q.app i),cP.vv e i,cP.vv q i];cases dg:e.d with
  |none=>
   cases V:q.d with
   |none=>grind [FZ]
   |some O=>
    obtain⟨j,w⟩:=O;simp only;split
    ·grind [BF]
    grind [FZ]
  |some d1=>
   obtain⟨t,co⟩:=d1;cases V:q.d with
   |none=>
    simp only;split
    ·grind [BF]
    grind [FZ]
   |some O=>
    obtain⟨j,w⟩:=O;have K:j≠t:=K j w t co V dg;simp only;by_cases o:j=p
    ·subst o;rw[ay bq,aw (Ne.symm K),ay bq];grind [BF]
    rw[aw o,aw o];split
    ·grind [BF]
    grind [FZ]
 rcases c6 id 500000 with h|h
 ·by_cases s:id∈C a
  ·have ad:=d2 id aa s;rw[pJ.uw ad,cP.tx q,cP.tx q,o.uw ad]
  rw[B.uw s,cP.tx e,cP.tx e,v.uw s]
 rw[B.yM h,o.yM h,pJ.yM h,v.yM h]
def i4.seq {c:aR} (b:ld i c) (d:i4 ic D G C a i q):i4 ic D G C a c q:=
 d.congr (λ_ _ e _=>.refl (b.g e).symm) (λ_ _ id _=>b.h id) (λid _ _ _ _=>b.h id)
def o1.seq:∀{c:amu} {d e f:aR},ld d e->o1 ic D G C c d f->o1 ic D G C c e f
 |[],_,_,_,a,h=>a.symm.trans h
 |_::_,_,_,_,a,⟨b,g,i⟩=>⟨b,g.seq a,o1.seq (a.app b) i⟩
def o1.front {g:X} {h:amu}:∀{b:amu} {a d:aR},(∀x∈b,vI D G C x g=bt)->o1 ic D G C (b++g::h) a d->∃c,i4 ic D G C g a c/\o1 ic D G C (b++h) (c.app a) d
 |[],a,d,_,⟨c,e,f⟩=>⟨c,e,f⟩
 |x::b,a,d,i,⟨k,e,f⟩=>by obtain⟨j,o,p⟩:=o1.front (λq r=>i q ae) f;obtain⟨l,m,n⟩:=i4.swap (i x ac) e o;exact⟨j,l,k,m,p.seq n⟩
end
end
section
section
variable {ic:g9} {F:bW bU} {ja iq:X->amu}
theorem Bz {D:Type} {y:aR->bv D} {C:D}:∀{w:amu} {b:aR},uk ic F ja iq w b y=Y C->∃c,o1 ic F ja iq w b c/\y c=Y C
 |[],b,a=>⟨b,ld.refl b,a⟩
 |i::w,b,a=>by
  simp only[uk] at a;split at a
  ·cases a
  rename_i o m;split at a
  ·rename_i A;obtain⟨k,s,t,u⟩:=O9 a;obtain⟨c,f,j⟩:=Bz u;exact⟨c,⟨k,⟨o,m,.inl ⟨by grind [lz],s,t⟩⟩,f⟩,j⟩
  rename_i I x A;split at a
  case h_2=>cases a
  rename_i r e G z;split at a
  case h_3=>cases a
  case h_2=>
   rename_i K B;cases l:gM ic.n ic.pin e with
   |false=>grind
   |true=>
   rw[l] at a;obtain⟨c,f,j⟩:=Bz a;refine⟨c,⟨zo e,⟨o,m,.inr ⟨?_,e,z,l,bq⟩⟩,f⟩,j⟩;grind [lz]
  rename_i d B;cases l:gM ic.n ic.pin e with
  |false=>grind
  |true=>
  rw[l] at a;simp only[bI] at a;have p:∀q,d=q->ld ⟨(r,.val .bool q)::b.g,b.h⟩ b:=λq v=>⟨λJ=>by
   grind [jC],λ_=>rfl⟩
  split at a
  ·rename_i v;obtain rfl:d=x:=ae;obtain⟨k,s,t,u⟩:=O9 a;obtain⟨c,f,j⟩:=Bz u;have E:i4 ic F ja iq i ⟨(r,.val .bool d)::b.g,b.h⟩ k:=by
    refine⟨o,m,.inl ⟨?_,s,t⟩⟩;unfold lz;rw[A];simp only[G,(p d bq).g r,B];simp
   exact⟨c,⟨k,E.seq (p d bq),f.seq ((p d bq).app k)⟩,j⟩
  rename_i v;have H:d=!x:=by cases d<;>cases x<;>first|rfl|cases v
  obtain⟨c,f,j⟩:=Bz a;refine⟨c,⟨zo e,⟨o,m,.inr ⟨?_,e,z,l,bq⟩⟩,f.seq ((p _ H).app (zo e))⟩,j⟩;grind [lz]
structure ms where
 i:X
 d:amu
 ax:amu
 ps:amu
 ja:amu
 iq:amu
def uc:amu->amu->bD
 |[],[]=>bt
 |a::c,b::d=>bL a b&&uc c d
 |_,_=>bu
theorem q3:∀{c d:amu},uc c d=bt->c=d
 |[],[],_=>rfl
 |a::c,e::d,b=>by simp only[uc,cJ] at b;rw[fJ b.1,q3 b.2]
 |[],_::_,b|_::_,[],b=>by cases b
def ry (F:bW bU) (ja iq:X->amu) (a:ms):bD:=match F[a.i]? with
 |some b=>uc (dl b) a.d&&uc (b.looksAt F) a.ax&&uc (ru F a.i) a.ps&&uc (ja a.i) a.ja&&uc (iq a.i) a.iq
 |none=>bu
def IK (a b:ms):bD:=tT a.d b.ax&&tT a.d b.d&&tT b.d a.ax&&tU b.iq (a.d++(a.ja++a.iq))&&tU a.iq (b.d++b.ja)&&(sw a.d a.ja a.iq b.iq&&sw b.d b.ja b.iq a.iq)
theorem Xk {j h:ms} (b:ry F ja iq j=bt) (a:ry F ja iq h=bt) (c:IK j h=bt):vI F ja iq j.i h.i=bt:=by
 unfold ry at b a;split at b
 case h_2=>cases b
 rename_i v q;split at a
 case h_2=>cases a
 rename_i u p;simp only[cJ] at b a;obtain⟨⟨⟨⟨w,x⟩,D⟩,y⟩,z⟩:=b;obtain⟨⟨⟨⟨i1,r⟩,A⟩,s⟩,t⟩:=a;unfold IK at c;rw[<-q3 w,<-q3 x,<-q3 y,<-q3 z,<-q3 i1,<-q3 r,<-q3 s,<-q3 t] at c;simp only[cJ] at c;obtain⟨⟨⟨⟨⟨e,f⟩,k⟩,l⟩,m⟩,n,o⟩:=c;unfold vI;simp only[q,p,l,m,n,o,aoF];have e:=tT.ok e;have f:=tT.ok f;have k:=tT.ok k;unfold Oper.apart;rw[cJ];constructor
 ·cases g:v.dst with
  |none=>rfl
  |some d=>
   have B:=e d (yP g);have C:=f d (yP g);simp only[cJ,uY];refine⟨?_,?_⟩
   ·grind
   rw[bne_iff_ne];grind [yP]
 cases g:u.dst with
 |none=>rfl
 |some d=>
  simp_all [Bool.not_eq_true,List.contains_iff_mem,uY,yP]
def l7 (a b:X):bD:=bL (Nat.land (Nat.shiftRight a b) 1) 1
def H8 (a b:X):X:=aqf a (Nat.shiftLeft 1 b)
theorem Ak:l7 a m=bt↔a.testBit m=bt:=by simp_all [aoH,amA,fJ,Nat.shiftRight_eq_div_pow,Nat.and_one_is_mod,Nat.testBit_eq_decide_div_mod_eq,bL,l7]
theorem N4 {b:X} (c:l7 (aqf m b) a=bt):l7 m a=bt\/l7 b a=bt:=by simp_all [arh,Ak]
theorem N3 {c:X} (b:l7 (H8 m c) a=bt):l7 m a=bt\/a=c:=by
 rcases N4 b with b|b
 ·grind
 simp_all [Ak,Nat.shiftLeft_eq,iL,aqg,aoH]
theorem Dr (b:l7 0 a=bt):False:=by grind [Ak]
def Ab (a:amw):amu->X
 |[]=>0
 |p::b=>aqf (H8 ((j5.ax a p).getD 0) p) (Ab a b)
theorem NB {e:amw}:∀{d:amu} {b:X},l7 (Ab e d) b=bt->∃p∈d,b=p\/∃c,j5.ax e p=Y c/\l7 c b=bt
 |[],_,a=>(Dr a).elim
 |p::d,b,a=>by
  rcases N4 a with a|a
  ·refine⟨p,ac,?_⟩;rcases N3 a with a|a
   ·cases g:j5.ax e p with
    |none=>grind [Dr]
    |some c=>grind
   omega
  obtain⟨i,h,f⟩:=NB a;grind
def Dx (c:X):X->bp ms->amw->bp ms->bD
 |_,_,_,[]=>bt
 |sm,d,b,a::f=>
  a.ps.all (λg=>l7 sm g)&&(d.all λe=>l7 (Ab b a.ps) e.i||IK e a)&&!(l7 sm a.i)&&cg a.i c&&Dx c (H8 sm a.i) (a::d) ((a.i,Ab b a.ps)::b) f
def lO (a:bp ms):amu:=a.map (·.i)
def vD (F:bW bU) (ja iq:X->amu) (a:bp ms):bD:=a.all (ry F ja iq)&&Dx F.size 0 [] [] a&&((bK F.size).all λb=>e6 b (lO a))&&b5 a.length F.size
def CU (F:bW bU) (a:X->Prop):Prop:=∀b,a b->∀c∈ru F b,a c
theorem ry.ps {b:ms} (a:ry F ja iq b=bt):ru F b.i=b.ps:=by
 unfold ry at a;split at a
 case h_2=>cases a
 simp only[cJ] at a;grind [q3]
theorem ID:∀{q j:bp ms} {o:X} {s:amw},Dx F.size o j s q=bt->(∀r∈q,ry F ja iq r=bt)->(∀r∈j,ry F ja iq r=bt)->(∀h,l7 o h=bt->h∈lO j)->(∀h∈lO j,l7 o h=bt)->(∀e v,j5.ax s e=Y v->∀b,CU F b->b e->∀a,l7 v a=bt->b a)->∀f g p,lO q=f++g::p->(∀e∈ru F g,e∈lO j\/e∈f)/\(∀b,CU F b->(∀e∈ru F g,b e)->∀a,(a∈lO j\/a∈f)->¬b a->vI F ja iq a g=bt)/\g∉lO j/\g∉f/\g<F.size
 |[],_,_,_,t,_,_,_,_,M,f,g,p,m=>by cases f<;>cases m
 |r::q,j,o,s,t,z,S,d,J,M,f,g,p,m=>by
  simp only[Dx,cJ,hk,uY] at t;obtain⟨⟨⟨⟨E,G⟩,x⟩,H⟩,I⟩:=t;have L:=z r ac;have K:=ry.ps L;have x:r.i∉lO j:=λk=>ae;have N:∀b,CU F b->(∀e∈ru F r.i,b e)->∀a,l7 (Ab s r.ps) a=bt->b a:=(by grind [NB]);cases f with
  |nil=>
   cases m;refine⟨λe l=>.inl (d _ (E e (K▸l))),λb n l a c y=>?_,x,ac,ha H⟩;rcases c with c|c
   ·obtain⟨P,O,rfl⟩:=eT.1 c;have:=G P O;rcases j4 _ _▸this with d|d
    ·grind
    grind [Xk]
   grind
  |cons Q f=>
   simp only[lO,hA,kR,ij] at m;obtain⟨rfl,m⟩:=m;obtain⟨B,C,w,R,D⟩:=ID I (λa c=>z a ae) (λa c=>by
    grind) (λh k=>by
    rcases N3 k with k|rfl
    ·exact gH _ (d h k)
    ·exact jQ ..) (λh k=>by
    rw[Ak];show(o|||(1<<<r.i)).testBit h=bt;rw[arh,j4];rcases fH.1 k with rfl|k
    ·grind
    ·left;exact Ak.1 (J h k)) (λe v u b n l a c=>by
    rw[eJ] at u;split at u
    ·rename_i A;cases u;subst A;exact N b n (n _ l) a c
    grind) f g p m
   refine⟨λe l=>?_,λb n l a c y=>C b n l a ?_ y,λd=>w (gH _ d),λd=>?_,D⟩
   ·rcases B e l with d|d
    ·rcases fH.1 d with rfl|d
     ·grind
     exact .inl d
    grind
   ·rcases c with c|c
    ·exact .inl (gH _ c)
    rcases fH.1 c with rfl|c
    ·exact .inl (jQ ..)
    grind
   rcases fH.1 d with rfl|d
   ·exact w (jQ ..)
   grind
variable {E:fP} {C:fg}
theorem i4.wp (h:ic.ah E C) (d:i4 ic F ja iq a i q) {b:Act} (g:g0 C i b.tmps v) {next:Act->bF->Prop} (p:∀c j,c.defers=b.defers->g0 C (q.app i) c.tmps j->next c j):wpOp E.P F o a next b v:=by
 obtain⟨w,r,d⟩:=d;obtain⟨k,t,l,e⟩:=id g;unfold wpOp;simp only[r];rcases d with⟨f,m,_⟩|⟨f,u,n,s,rfl⟩
 ·rw[f.ok e,ay bq];refine .inl (O8 h m b v g _ _ ?_);grind
 rw[f.ok e,aw ac,n];exact p _ v bq ⟨k,t,l,e.put (gM.ok h s) (.eI bY)⟩
def left (a:amu) (c:bW bD):amu:=a.filter λb=>!c.getD b bt
theorem Qu {b:bW bD} {c:amu} (g:left f b=w++a::c) (h:a∉w) (i:a∉c) (j:a<b.size):left f (b.setIfInBounds a bt)=w++c:=by
 have:left f (b.setIfInBounds a bt)=(left f b).filter λd=>!(d==a):=by
  unfold left;rw[zK];refine qx λd _=>?_;by_cases e:a=d
  ·simp_all
  rw[aqh bt e];grind
 grind [an5,List.filter_cons_of_neg]
theorem LS (c:F[a]?=Y h):m∈ru F a↔∃b∈h.after,aqe .any b=bt/\b.on=m:=by grind [ru]
theorem V9 (d3:ic.ah E C) {R:bp ms} (dg:f=lO R) (r:vD F ja iq R=bt) {t:aR} {ds:bp Deferred} (am:∀d g,d.defers=ds->g0 C t d.tmps g->o .normal d g):∀(q:X) (a:bW bD) (d:Act) (g:bF) (w:aR),a.size=F.size->(left f a).length<=q->CU F (λe=>a.getD e bt=bt/\e<F.size)->o1 ic F ja iq (left f a) w t->g0 C w d.tmps g->d.defers=ds->wpAny E.P .any F o q a d g:=by
 unfold vD at r;simp only[cJ,hk,gN] at r;obtain⟨⟨⟨el,r⟩,an⟩,_⟩:=r;have I:=ID r el ac (λe d4=>(Dr d4).elim) (by simp[lO]) (λH f4 c=>by cases c);rw[<-dg] at I an;have Q:∀i,i<F.size->i∈f:=λi M=>hH.1 (an i M);have ft:∀{a:bW bD} {e:X},a.size=F.size->e<F.size->a.getD e bt=bt->a.getD e bu=bt:=ae;have a4:∀{a:bW bD} {i:X},a.size=F.size->i∈aqi .any F a->i<F.size/\a.getD i bt=bu/\∃m,F[i]?=Y m/\∀b∈m.after,aqe .any b=bt->a.getD b.on bu=bt:=(by grind [Array.getElem?_eq_some_iff,mem_ready]);have first:∀{a:bW bD} {i:X} {K:amu},a.size=F.size->left f a=i::K->i∈aqi .any F a:=by
  intro a i K D N;have u:i∈left f a:=ae;have d2:i∈f:=(hV.1 u).1;have em:a.getD i bt=bu:=(by simpa using(hV.1 u).2);obtain⟨h,n,z⟩:=xl d2;obtain⟨ci,_,_,x,cs⟩:=I h i n z;obtain⟨m,v⟩:∃m,F[i]?=some m:=⟨_,CQ cs⟩;refine mem_ready.2 ⟨em,m,v,λb k s=>?_⟩;have p:b.on∈ru F i:=(LS v).2 ⟨b,k,s,bq⟩;have fT:b.on∈h:=by
   rcases ci _ p with c|c
   ·cases c
   omega
  have f1:∀j∈h,a.getD j bt=bt:=by
   intro j G;cases eq:a.getD j bt with
   |true=>rfl
   |false=>
    obtain⟨J,bl,ad⟩:=xl G;have:left f a=left J a++j::(left bl a++left (i::n) a):=(by show aoI _ f=_;rw[z,ad];simp only[left,qw,nD,eq,lC,kR];rfl);rw[N] at this;cases c2:left J a with
    |nil=>grind
    |cons f5 fn=>
     rw[c2] at this;cases this;have:i∈left J a:=ae;exact absurd (by rw[ad];exact oW _ (hV.1 this).1) x
  have a3:b.on<F.size:=(by have:b.on∈f:=ae;obtain⟨fr,fs,fz⟩:=xl this;grind);grind
 intro q
 induction q with
 |zero=>
  intro a d g w D d6 L l A B;have d8:left f a=[]:=List.length_eq_zero_iff.1 aa;rw[d8] at l;refine⟨?_,am d g B (A.seq l)⟩;cases ek:aqi .any F a with
  |nil=>rfl
  |cons i fn=>
   obtain⟨y,cv,_⟩:=a4 D (i:=i) ae;have:i∈left f a:=hV.2 ⟨Q i y,ae⟩;grind
 |succ q fl=>
  intro a d g w D d6 L l A B;constructor
  ·intro ek;cases N:left f a with
   |nil=>rw[N] at l;exact am d g B (A.seq l)
   |cons i K=>
    grind
  intro i M;obtain⟨y,cv,m,v,T⟩:=a4 D M;have u:i∈left f a:=hV.2 ⟨Q i y,ae⟩;obtain⟨h,n,z⟩:=xl (Q i y);obtain⟨_,co,_,x,_⟩:=I h i n z;have ap:i∉n:=(by intro u;obtain⟨bs,bx,f0⟩:=xl u;have:=(I (h++i::bs) i bx ae).2.2.2.1;grind);have O:left f a=left h a++i::left n a:=(by grind [left,aoI]);have d0:∀j∈left h a,vI F ja iq j i=bt:=(by intro j G;obtain⟨ex,f3⟩:=hV.1 G;refine co _ L (λH p=>?_) j (.inr ex) (λG=>by grind);obtain⟨b,k,s,rfl⟩:=(LS v).1 p;have U:=T b k s;have a3:b.on<a.size:=ae;grind);rw[O] at l;obtain⟨b,k,f2⟩:=o1.front d0 l;refine k.wp d3 A (λce fp d1 dl=>fl _ ce fp (b.app w) ae ?_ ?_ ?_ dl (d1.trans B))
  ·rw[Qu O (λc=>x (hV.1 c).1) (λc=>ap (hV.1 c).1) aa];grind
  ·intro e ⟨av,d5⟩ H p;by_cases a0:i=e
   ·subst a0;obtain⟨b,k,s,rfl⟩:=(LS v).1 p;have U:=T b k s;have a3:b.on<a.size:=by
     grind
    have V:=getD_set_true (i:=i) U;refine⟨?_,aa⟩;have d7:b.on<(a.setIfInBounds i bt).size:=ae;have ar:∀S,(a.setIfInBounds i bt).getD b.on S=(a.setIfInBounds i bt)[b.on]:=λS=>(by simp only[Array.getD,d7,anS];rfl);grind
   rw[aqh bt a0] at av;obtain⟨V,c1⟩:=L e ⟨av,d5⟩ H p;refine⟨?_,c1⟩;by_cases d9:i=H
   ·grind
   rw[aqh bt d9];exact V
  rw[Qu O (λc=>x (hV.1 c).1) (λc=>ap (hV.1 c).1) aa];omega
theorem J.draw (A:E.P.follows .mixedOrders=bt) (x:ic.ah E C) {g:aR->bv b} {h:b} {id:X} {a:bp ms} (c:vD F ja iq a=bt) (e:uk ic F ja iq (lO a) i g=Y h) (r:∀j,g j=Y h->z .normal j):J E C (.region id F bt) i z:=by
 obtain⟨d,K,p⟩:=Bz e;intro n H f u;refine wp_region_any A ?_;have L:left (lO a) (ap1 F.size bu)=lO a:=(by refine nE.2 λB w=>?_;unfold vD at c;simp only[cJ,hk] at c;obtain⟨k,l,q⟩:=xl w;have:=(ID c.1.1.2 c.1.1.1 ac (λD y=>(Dr y).elim) (by simp[lO]) (λQ R e=>by cases e) k B l q).2.2.2.2;simp_all);have O:(lO a).length<=F.size:=(by simp_all [ha,eL,cJ,lO,vD]);refine V9 x bq c (t:=d) (ds:=[]) (λI S v s=>⟨d,r d p,s,v⟩) F.size _ n _ i ac ae ?_ ae ?_ u
 ·intro D ⟨M,N⟩;simp_all
 obtain⟨m,G,o,f⟩:=f;exact⟨m,G,o,f.Zg (hL.refl H).drew⟩
end
end
section
def kH:bp a6->ak->ak
 |[],e=>kv e
 |.deref::a,.optr d=>.optr (kH a d)
 |.unst::a,.st d=>.st (kH a d)
 |.fst::a,.pr b c=>.pr (kH a b) c
 |.snd::a,.pr b c=>.pr b (kH a c)
 |_,e=>e
def ph:bp a6->ak->bD
 |[],e=>sr e
 |.deref::a,.optr b|.unst::a,.st b=>ph a b
 |.fst::a,.pr c _=>ph a c
 |.snd::a,.pr _ d=>ph a d
 |_,_=>bu
def wi:∀(a:bp a6) (e:ak),ph a e=bt->(kH a e).den=e.den
 |[],e,_=>su e
 |.deref::a,.optr f,b|.unst::a,.st f,b=>wi a f b
 |.fst::a,.pr c d,b=>by show((kH a c).den×d.den)=(c.den×d.den);rw[wi a c b]
 |.snd::a,.pr c d,b=>by show(c.den×(kH a d).den)=(c.den×d.den);rw[wi a d b]
def yu:∀(a:bp a6) (c:ak),ph a c=bt->(kH a c).size=c.size
 |[],c,_=>ui c
 |.deref::a,.optr f,b=>rfl
 |.unst::a,.st f,b=>yu a f b
 |.fst::a,.pr d e,b=>by simp only[kH,amW,yu a d b]
 |.snd::a,.pr d e,b=>by simp only[kH,amW,yu a e b]
def pg (b:bp a6) (a:ak) (c:ph b a=bt) (d:a.den):(kH b a).den:=cast (wi b a c).symm d
theorem Cg {C:eM->X->Prop} {w:bF}:∀{p:bp a6} {τ:ak} {cs:amo} {x:τ.den} {h:amu} (c:ph p τ=bt),aW C w τ cs x h->h.Nodup->∃f f2:amu,(∀a,a∈h↔a∈f\/a∈f2)/\(∀a∈f,a∉f2)/\f.Nodup/\∀g:eM->X->Prop,(∀n a,C n a->g n a)->(∀a∈f2,g .bm a)->aW g w (kH p τ) cs (pg p τ c x) f
 |[],τ,cs,x,h,c,i,e=>⟨[],h,ac,ac,List.nodup_nil,λg j m=>wP j c i m⟩
 |.deref::p,.optr u,cs,x,h,c,i,e=>by
  obtain⟨a,J,l,E,q,rfl,F,G,H,I⟩:=i;rw[kS] at e;obtain⟨f,f2,aB,r,s,bj⟩:=Cg (p:=p) (τ:=u) c I e.2;refine⟨a::f,f2,λb=>by simp only[fH,aB];grind,λb d=>?_,?_,λg j m=>?_⟩
  ·rcases fH.1 d with rfl|d
   ·exactλl=>e.1 ((aB b).2 (.inr l))
   exact r b d
  ·rw[kS];exact⟨λl=>e.1 ((aB a).2 (.inl l)),s⟩
  have D:=yu p u c;exact⟨a,J,f,E,q,bq,by rw[D];exact F,G,by rw[D];exact H,bj g j m⟩
 |.unst::p,.st u,cs,x,h,c,i,e=>Cg (p:=p) (τ:=u) (x:=x) c i e
 |.fst::p,.pr k a,cs,x,h,c,i,e=>by
  obtain⟨v,y,rfl,q,z⟩:=i;rw[jR] at e;obtain⟨f,f2,aB,r,s,bj⟩:=Cg (p:=p) (τ:=k) c q e.1;refine⟨f++y,f2,λb=>by simp only[hl,aB];grind,λb d=>?_,?_,λg j m=>?_⟩
  ·rcases hl.1 d with d|d
   ·exact r b d
   exactλl=>e.2.2 b ((aB b).2 (.inr l)) b d bq
  ·rw[jR];exact⟨s,e.2.1,λb d t B=>e.2.2 b ((aB b).2 (.inl d)) t B⟩
  have o:pg (.fst::p) (.pr k a) c x=(pg p k c x.1,x.2):=IA (wi p k c).symm bq _ x;refine⟨f,y,bq,?_,?_⟩
  ·rw[yu p k c,o];exact bj g j m
  rw[yu p k c,o];exact z.mono (λn a A=>⟨j n a A,cu _ _⟩) λ_ _=>cu _ _
 |.snd::p,.pr k a,cs,x,h,c,i,e=>by
  obtain⟨v,y,rfl,q,z⟩:=i;rw[jR] at e;obtain⟨f,f2,aB,r,s,bj⟩:=Cg (p:=p) (τ:=a) c z e.2.1;refine⟨v++f,f2,λb=>by simp only[hl,aB];grind,λb d=>?_,?_,λg j m=>?_⟩
  ·rcases hl.1 d with d|d
   ·exactλl=>e.2.2 b d b ((aB b).2 (.inr l)) rfl
   exact r b d
  ·rw[jR];exact⟨e.1,s,λb d t B=>e.2.2 b d t ((aB t).2 (.inl B))⟩
  have o:pg (.snd::p) (.pr k a) c x=(x.1,pg p a c x.2):=IA bq (wi p a c).symm _ x;refine⟨v,f,bq,?_,?_⟩
  ·rw[o];exact q.mono (λn a A=>⟨j n a A,cu _ _⟩) λ_ _=>cu _ _
  rw[o];exact bj g j m
def q4 (id:X):ao->ao
 |.ref b []=>.ref b []
 |a=>bif a.fF [id] then .dead else a
def JZ (id:X) (b:bp a6) (a:aI) (d:ph b a.1=bt) (st:aR):aR:=⟨st.g.map λc=>(c.1,q4 id c.2),(id,⟨kH b a.1,pg b a.1 d a.2⟩)::del [id] st.h⟩
def Y1 (id:X) (a:ao):(∃b,a=.ref b []/\q4 id a=.ref b [])\/(q4 id a=.dead)\/(q4 id a=a/\a.fF [id]=bu):=by
 have d:∀a:ao,q4 id a=(bif a.fF [id] then .dead else a)->(∃b,a=.ref b []/\q4 id a=.ref b [])\/(q4 id a=.dead)\/(q4 id a=a/\a.fF [id]=bu):=by
  intro a c;cases e:a.fF [id] with
  |true=>rw[e] at c;exact .inr (.inl c)
  |false=>rw[e] at c;exact .inr (.inr ⟨c,bq⟩)
 cases a with
 |ref b f=>
  cases f with
  |nil=>exact .inl ⟨b,bq,bq⟩
  |cons g f=>exact d _ rfl
 |_=>exact d _ rfl
def Y2:∀(a:bp a6) (b:ak) (cs:amo),a≠[]->ph a b=bt->c9 (kH a b) cs=c9 b cs
 |[],_,_,h,_=>absurd rfl h
 |.deref::a,.optr e,cs,_,_|.unst::a,.st e,cs,_,_|.fst::a,.pr c d,cs,_,_|.snd::a,.pr c d,cs,_,_=>rfl
section
variable {C:fg} {st:aR} {A:eB} {w:bF}
def cW.YV (o:cW C st A w O x y) {id:X} (J:j≠[]) (m:ax st.h id=Y P) (c:ph j P.1=bt):g0 C (JZ id j P c st) A w:=by
 obtain⟨Q,R,u⟩:=o.tree id P m;obtain⟨v,f2,aB,L,N,bj⟩:=Cg c Q R;have G:∀n a,bi O C.B n a->bi (λa=>O a\/a∈f2) C.B n a:=by
  intro n a b;cases n
  ·exact .inl b
  exact b.imp .inl (λc=>c)
 have D:=o.eK (S:=[id]) (keep:=[]) (new:=[(id,⟨kH j P.1,pg j P.1 c P.2⟩)]) (rtn:=x) (fpn:=λ_=>v) (w':=w) (I':=λa=>O a\/a∈f2) ⟨bf _,bq,bq,bq,λ_ _ _=>rfl,λ_ _=>.refl _ _,λ_ c=>.inl c,λa b=>b.imp (λc=>c) λb=>⟨(u a ((aB a).2 (.inr b))).2.2.1,.inr ⟨id,ac,P,m,(aB a).2 (.inr b)⟩⟩,(λd T e=>by
    rw[eJ] at e;split at e
    ·rename_i f;subst f;cases e;refine⟨.inl ac,bj _ G (λa b=>.inr b),N,λa b=>⟨λl=>?_,(u a ((aB a).2 (.inl b))).2.2.1,.inr ⟨id,ac,P,m,(aB a).2 (.inl b)⟩⟩⟩;rcases l with l|l
     ·exact(u a ((aB a).2 (.inl b))).1 l
     exact L a b l
    cases e),
   (λd V T U e r z=>by
    rw[eJ] at e r;split at e
    ·split at r
     ·omega
     cases r
    cases e),(λf q=>by cases q),(λf q=>by cases q)⟩
 refine⟨_,_,_,{D with tmp:=λi=>?_}⟩;have s:=o.tmp i;have k:=D.tmp i;rw[show gt (aR.mk (amO [id] [] st.g) ([(id,⟨kH j P.1,pg j P.1 c P.2⟩)]++del [id] st.h)).g i=fU [id] [] (gt st.g i) from q8 _ _ _ _] at k;have H:gt (JZ id j P c st).g i=q4 id (gt st.g i):=J8 (q4 id) rfl st.g i;rw[H];generalize gt st.g i=F at s k;generalize A.getD i bY=U at s k;rcases Y1 id F with⟨d,rfl,f⟩|f|⟨f,K⟩
 ·rw[f];by_cases e:d=id
  ·subst e;cases s with|ref E I=>
   rw[m] at E;cases E;obtain⟨rfl,rfl,rfl⟩:=amY.1 I;have:=c0.ref (M:=bi (λa=>O a\/a∈f2) C.B) (w:=w) (h:=[(d,(⟨kH j P.1,pg j P.1 c P.2⟩:aI))]++del [d] st.h) (rt:=fC [(d,(⟨kH j P.1,pg j P.1 c P.2⟩:aI))] x x) (fp:=fC [(d,(⟨kH j P.1,pg j P.1 c P.2⟩:aI))] (λ_=>v) y) (id:=d) (p:=[]) (t:=⟨kH j P.1,pg j P.1 c P.2⟩) (τ':=kH j P.1) (loc:=br) (cs:=x d)
    (by rw[zR,eJ,ay bq]) (amY.2 ⟨bq,bq,by unfold fC;split<;>rfl⟩)
   rw[Y2 j P.1 _ J c] at this;exact this
  have b:bL id d=bu:=by
   cases b:bL id d with
   |false=>rfl
   |true=>exact absurd (fJ b).symm e
  have z:(ao.ref d []).fF [id]=bu:=(by simp[amK,bV,e6,b]);rw[MI z] at k;exact k
 ·rw[f];exact .dead _
 rw[f];rw[MI K] at k;exact k
end
end
section
section
variable {E:fP} {C:fg} {ic:g9}
def zF.store (g:zF p c) {w:bF} {b o:X} {v:Value} (k:v.cells=#[v]) (h:v.oneCell'=bt) (e:jf w b o (o+1)):(storeVar c ⟨b,o,br⟩ v).run p w=.ok () (w.setCells b o [v]):=by obtain⟨n,u,m,aB,l,q,bj,r,s⟩:=g;have j:=run_storeCells_cells (P:=p) b o [v] 0 w (λd a=>by simpa using(e (o+d) aa (by simp at a;omega)).1) (λd a=>by simpa using(e (o+d) aa (by simp at a;omega)).2) (λt f=>by rw[gI] at f;subst f;exact h);have i:(anm c).run p w=.ok 1 w:=(by simp[anm,am1,aB,l]);simp only[storeVar,k,b0,i,b4];simpa using j
def ML (a:h.guard=br) (b:X->bv bD):apf h b=bt:=by unfold apf;rw[a]
end
end
section
def Iw (ic:g9) (p:bW bU) (c:aR):bv aR:=
 match p.toList with
 |[d,e,f]=>match d.guard,e.guard,f.guard with
  |none,br,br=>match d.op,d.dst,e.op,e.dst,f.op,f.dst with
   |.makeFunc (.func j) o cs,Y b,.alloc i,Y a,.store k (.tmp l) (.tmp m),br=>match ax ic.tt i with
    |some (.fn _ _)=>bif (bL i k&&(bL a l&&(bL b m&&!(bL a b))))&&(o.isEmpty&&(gM ic.n ic.pin a&&gM ic.n ic.pin b)) then
     Y ⟨(a,.hY (.eG j (cs.toList.map (aX c.g))))::(b,.eG j (cs.toList.map (aX c.g)))::c.g,c.h⟩ else br
    |_=>br
   |_,_,_,_,_,_=>br
  |_,_,_=>br
 |_=>br
section
variable {E:fP} {C:fg} {ic:g9}
theorem J.An (ad:ic.ah E C) {M:bW bU} {id:X} {an:aR} (f:Iw ic M i=Y an) (ex:z .normal an):J E C (.region id M bu) i z:=by
 have am:=λa0=>gM.ok ad (d:=a0);have fr:=ad.1;unfold Iw at f;split at f
 case h_2=>cases f
 rename_i q r s hw;split at f
 case h_2=>cases f
 rename_i dg dl ds;split at f
 case h_2=>cases f
 rename_i a O cs m k l a3 a4 co fT cv i1 c1 i2 c2;split at f
 case h_2=>cases f
 rename_i i0 kd y;cases hcond:(bL k a3&&(bL l a4&&(bL m co&&!(bL l m))))&&(O.isEmpty&&(gM ic.n ic.pin l&&gM ic.n ic.pin m)) with
 |false=>grind
 |true=>
 rw[hcond] at f;simp only[bI,e9] at f;subst f;simp only[cJ] at hcond;obtain⟨⟨bl,bs,bx,gi⟩,gl,ce,ci⟩:=hcond;obtain rfl:=fJ bl;obtain rfl:=fJ bs;obtain rfl:=fJ bx;have hv:¬l=m:=λgo=>ae;have T:=am _ ce;have V:=am _ ci;rw[fr] at y;obtain⟨ft,i3,i8,kg,f6,f7,_,f8,f9⟩:=E.ok k _ y;have y:zF E.P k:=⟨ft,.nilFunc,_,f6,f7,f8,bq,f9,bq⟩;have jp:anX.cells.size=1:=rfl;have el:O=#[]:=ae;subst el;obtain rfl:M=#[q,r,s]:=ae;rintro e w ⟨F,N,H,I⟩ d6;have gc:(#[q,r,s]:bW bU)[0]?=Y q:=rfl;have ge:(#[q,r,s]:bW bU)[1]?=Y r:=rfl;have gf:(#[q,r,s]:bW bU)[2]?=Y s:=rfl;have f3:(bP e.eval q).run E.P w=.ok (.value (.func (.func a) #[] (cs.map e.eval))) w:=(by simp[bP,fT,Instr.makeFunc]);have io:cs.toList.length=(cs.map e.eval).size:=ac;have fs:∀(u:X) (x:Value),(cs.map e.eval)[u]?=Y x->∃D,cs.toList[u]?=Y D/\x=e.eval D:=λu x hs=>ae;generalize cs.map e.eval=c at*;generalize K:e.put (Y m) (.func (.func a) #[] c)=t;have hi:m<e.tmps.size:=(by rw[I.n];exact V.1);have gt:l<e.tmps.size:=(by rw[I.n];exact T.1);have fn:t.tmps=e.tmps.setIfInBounds m (.func (.func a) #[] c):=(by rw[<-K];rfl);have d7:t.defers=e.defers:=(by rw[<-K];rfl);have f4:(bP t.eval r).run E.P w=.ok (.value (.pointer (Y ⟨w.heap.size,0,br⟩))) (w.alloc (.cells anX.cells k)):=(by simp_all [bP,Instr.alloc,amN,am1,newVar,ang]);generalize L:t.put (Y l) (.pointer (Y ⟨w.heap.size,0,br⟩))=p;have fp:p.tmps=t.tmps.setIfInBounds l (.pointer (Y ⟨w.heap.size,0,br⟩)):=(by rw[<-L];rfl);have d8:p.defers=t.defers:=(by rw[<-L];rfl);have d5:p.tmps.getD l bY=.pointer (Y ⟨w.heap.size,0,br⟩):=ag;have d9:p.tmps.getD m bY=.func (.func a) #[] c:=ag;have hc:((w.alloc (.cells anX.cells k)).cell? ⟨w.heap.size,0,br⟩).isSome=bt:=ag;have fl:(w.alloc (.cells anX.cells k)).heap.size=w.heap.size+1:=ag;have ek:jf (w.alloc (.cells anX.cells k)) w.heap.size 0 (0+1):=ap9 aa;have A:hL w (w.alloc (.cells anX.cells k)):=anp w _;generalize is:w.alloc (.cells anX.cells k)=j at*;have f5:(bP p.eval s).run E.P j=.ok .skip (j.setCells w.heap.size 0 [.func (.func a) #[] c]):=(by have ib:=y.store (w:=j) (b:=w.heap.size) (o:=0) (v:=.func (.func a) #[] c) rfl rfl ek;have ar:p.eval (.tmp l)=.pointer (Y ⟨w.heap.size,0,br⟩):=d5;have gs:p.eval (.tmp m)=.func (.func a) #[] c:=d9;simp_all [bP,Instr.storeAt,an4]);have fz:∀G:b8->Act->bF->Prop,G .normal p (j.setCells w.heap.size 0 [.func (.func a) #[] c])->wpOps E.P #[q,r,s] G [0,1,2] e w:=(by intro G d2;simp only[wpOps,gc,ge,gf];rw[ay (ML dg _)];refine .inl ?_;unfold amH;rw[f3,ari,cv,K,ay (ML dl _)];refine .inl ?_;rw[f4,ari,c1,L,ay (ML ds _)];refine .inl ?_;rw[f5,Oper.upon_skip,c2];exact d2);refine wp_region (fz _ ?_);have eq:(j.setCells w.heap.size 0 [.func (.func a) #[] c]).cell? ⟨w.heap.size,0,br⟩=Y (.func (.func a) #[] c):=
  aoD w.heap.size [.func (.func a) #[] c] 0 j (λix hr=>by
   grind) 0 ac
 have em:hL w (j.setCells w.heap.size 0 [.func (.func a) #[] c]):=(by obtain⟨f0,f1,f2⟩:=qj w.heap.size [.func (.func a) #[] c] 0 j;exact⟨f0.trans A.os,f1.trans A.tape,f2.trans A.output,by grind [uQ],λb d4=>(zl _ _ _ _ _ aa).trans (A.heap b d4)⟩);have ii:(j.setCells w.heap.size 0 [.func (.func a) #[] c]).heap.size=w.heap.size+1:=(by rw[uQ,fl]);generalize j.setCells w.heap.size 0 [.func (.func a) #[] c]=ap at*;have S:cW C i e.tmps ap (λb=>F b\/b=w.heap.size) N H:=by
  have:=I.ext (I':=λb=>F b\/b=w.heap.size) (rtn:=N) (fpn:=H) em (λ_ d0=>.inl d0) (by
   grind) (new:=[]) .nil
  exact this
 have U:c0 (bi (λb=>F b\/b=w.heap.size) C.B) ap i.h N H (.eG a (cs.toList.map (aX i.g))) (.func (.func a) #[] c):=(by refine .eG ae (λu av x Q d1=>?_);obtain⟨D,aB,rfl⟩:=fs u x d1;rw[jv,aB] at Q;cases Q;exact S.aX D);have d3:=(S.put V U);have R:=d3.put T (av:=.hY (.eG a (cs.toList.map (aX i.g)))) (v:=.pointer (Y ⟨w.heap.size,0,br⟩)) (.hY (.inr bq) eq bq U);rw[<-fn,<-fp] at R;exact⟨_,ex,⟨_,_,_,R⟩,d8.trans (d7.trans d6)⟩
end
end
section
inductive HH where
 |none
 |x (l:amu) (Cv:n9)
 |w5 (l:amu) (Cv:n9)
inductive HI where
 |r
 |x (id:X) (Cv:n9)
 |w5 (id:X) (Cv:n9)
inductive m1 where
 |leaf
 |one (a:m1)
 |two (j:HH) (a b:m1)
 |loop (Cv:n9) (m:HI) (a:m1)
 |keep (l:amu) (a:m1)
 |q5 (F:amu) (a:m1)
 |fp (id:X) (p:bp a6) (a:m1)
 |draw (L:bp ms)
 |An
def FN:bp ms->X->amu
 |[],_=>[]
 |r::b,a=>bif bL r.i a then r.ja else FN b a
def Gf:bp ms->X->amu
 |[],_=>[]
 |r::b,a=>bif bL r.i a then r.iq else Gf b a
def N9 {A:Type} (id:X) (b:b8->aR->bv A):b8->aR->bv A
 |.exit c,a=>match bL c id with
  |true=>b .normal a
  |false=>b (.exit c) a
 |e,a=>b e a
def ZK {a:Type} (c:aR->bv a):b8->aR->bv a
 |.normal,b=>c b
 |_,_=>br
def ZL {b A:Type} (d:aR->bv b) (c:b8->aR->bv A):b8->aR->bv (b⊕A)
 |.normal,a=>(d a).map .inl
 |e,a=>(c e a).map .inr
def Cr {A:Type} (c:aR->bv A) (b:b8->aR->bv A):b8->aR->bv A
 |.normal,a=>c a
 |e,a=>b e a
def aaq {b A:Type} (d:aR->bv b) (c:b8->aR->bv A):b8->aR->bv (b⊕A)
 |.normal,a=>(d a).map .inl
 |e,a=>(c e a).map .inr
def QN {b c:Type} (e:aR->bv b) (id:X) (f:aR->bv c):b8->aR->bv (b⊕c)
 |.normal,a=>(e a).map .inl
 |.exit d,a=>match bL d id with
  |true=>(f a).map .inr
  |false=>br
 |_,_=>br
def QO {f g A:Type} (h:aR->bv f) (id:X) (i:aR->bv g) (c:b8->aR->bv A):b8->aR->bv (f⊕(g⊕A))
 |.normal,a=>(h a).map .inl
 |.exit d,a=>match bL d id with
  |true=>(i a).map λb=>.inr (.inl b)
  |false=>(c (.exit d) a).map λb=>.inr (.inr b)
 |e,a=>(c e a).map λb=>.inr (.inr b)
def h6:g9->m1->cx->aR->(A:Type)->(b8->aR->bv A)->bv A
 |ic,.leaf,d,a,_,b=>match d with
  |.skip=>b .normal a
  |.exit id=>b (.exit id) a
  |.ret=>b .ret a
  |.region _ l bu=>lN ic l (bK l.size) a (b .normal)
  |_=>br
 |ic,.one e,d,a,A,b=>match d with
  |.block id j=>h6 ic e j a A (N9 id b)
  |_=>br
 |ic,.two w e q,d,a,A,b=>match d with
  |.seq j p=>match w with
   |.none=>h6 ic e j a A (Cr (λf=>h6 ic q p f A b) b)
   |.x k c=>match um a.g k with
    |some i=>(h6 {ic with pin:=k++ic.pin,kg:=i++ic.kg} e j a c.den (ZK (proj c))).bind λm=>h6 ic q p (v9 {ic with pin:=k++ic.pin,kg:=i++ic.kg} c m) A b
    |none=>br
   |.w5 k c=>match um a.g k with
    |some i=>(h6 {ic with pin:=k++ic.pin,kg:=i++ic.kg} e j a (c.den⊕A) (ZL (proj c) b)).bind λ
     |.inl m=>h6 ic q p (v9 {ic with pin:=k++ic.pin,kg:=i++ic.kg} c m) A b
     |.inr i=>Y i
    |none=>br
  |.cond t j p=>match aX a.g t with
   |.val .bool z=>match z with
    |true=>h6 ic e j a A b
    |false=>h6 ic q p a A b
   |_=>br
  |_=>br
 |ic,.loop c y e,d,a,A,b=>match d with
  |.loop j=>(proj c a).bind λu=>match y with
   |.r=>(loop (λf=>h6 ic e j (v9 ic c f) (c.den⊕A) (aaq (proj c) b)) u).bind Y
   |.x id n=>(loop (λf=>h6 ic e j (v9 ic c f) (c.den⊕n.den) (QN (proj c) id (proj n))) u).bind λm=>b (.exit id) (v9 ic n m)
   |.w5 id n=>(loop (λf=>h6 ic e j (v9 ic c f) (c.den⊕(n.den⊕A)) (QO (proj c) id (proj n) b)) u).bind λ
    |.inl m=>b (.exit id) (v9 ic n m)
    |.inr i=>Y i
  |_=>br
 |ic,.draw o,d,a,_,b=>match d with
  |.region _ l bt=>bif vD l (FN o) (Gf o) o then uk ic l (FN o) (Gf o) (lO o) a (b .normal) else br
  |_=>br
 |ic,.An,d,a,_,b=>match d with
  |.region _ l bu=>match Iw ic l a with
   |some f=>b .normal f
   |none=>br
  |_=>br
 |ic,.q5 v e,d,a,A,b=>bif oi a.h v then h6 ic e d (uh v a) A b else br
 |ic,.fp id s e,d,a,A,b=>match ax a.h id,s with
  |some t,f::s=>if h:ph (f::s) t.1=bt then h6 ic e d (JZ id (f::s) t h a) A b else br
  |_,_=>br
 |ic,.keep k e,d,a,A,b=>match um a.g k with
  |some i=>h6 {ic with pin:=k++ic.pin,kg:=i++ic.kg} e d a A b
  |none=>br
section
variable {E:fP} {C:fg} {ic:g9} {A:Type}
theorem J.post (s:qs C S) {e:cx} (k:J E C e i (λf c=>z f c\/∃(d a:aR),z f d/\d=⟨S++a.g,a.h⟩/\pX a.g c/\pY a.h c/\ni a.g a.h=bt)):J E C e i z:=
 λj t q r=>wp_mono (k j t q r) (λ_ _ _ ⟨c,b,o,p⟩=>by
  rcases b with b|⟨d,a,b,rfl,l,m,n⟩
  ·grind
  exact⟨_,b,(o.Ar l m n).kg s,p⟩)
theorem mM:∀{am:m1} {C:fg} {ic:g9} {m:cx} {j:aR} {A:Type} {k:b8->aR->bv A} {r:A} {l:b8->aR->Prop},ic.ah E C->h6 ic am m j A k=Y r->(∀e i,k e i=Y r->l e i)->J E C m j l
 |.leaf,C,ic,m,j,A,k,r,l,b,a,d=>by
  simp only[h6] at a;split at a
  ·grind [J.skip]
  ·grind [J.exit]
  ·grind [J.ret]
  ·grind [J.region,Zs]
  grind
 |.one q,C,ic,m,j,A,k,r,l,b,a,d=>by
  simp only[h6] at a;split at a
  ·refine J.block (mM b a ?_);intro e i c;cases e with
   |exit M=>
    grind [Iu,N9]
   |_=>exact d _ _ c
  grind
 |.two M q cv,C,ic,m,j,A,k,r,l,b,a,d=>by
  simp only[h6] at a;split at a
  ·rename_i x cs;refine J.seq ?_;split at a
   ·refine mM b a ?_;intro e i c;cases e with
    |normal=>exact mM b c d
    |_=>exact d _ _ c
   ·rename_i D F;split at a
    case h_2=>cases a
    rename_i Q L;obtain⟨n,B,a⟩:=e3.1 a;refine J.keep b.2.2.2.2 L (λS s t o u v=>J.post o (mM (ic:={ic with pin:=D++ic.pin,kg:=Q++ic.kg}) ⟨b.1,b.2.1.trans s.symm,by rw[t,<-b.2.2.1],⟨b.2.2.2.1.1,u _ b.2.2.2.1.2.1,b.2.2.2.1.2.2.1,v b.2.2.2.1.2.2.2.1,b.2.2.2.1.2.2.2.2⟩,o⟩ B ?_));intro e i c;cases e with
    |normal=>exact .inr ⟨_,_,mM b a d,bq,uN c⟩
    |_=>cases c
   rename_i D F;split at a
   case h_2=>cases a
   rename_i Q L;obtain⟨n,B,a⟩:=e3.1 a;refine J.keep b.2.2.2.2 L (λS s t o u v=>J.post o (mM (ic:={ic with pin:=D++ic.pin,kg:=Q++ic.kg}) ⟨b.1,b.2.1.trans s.symm,by rw[t,<-b.2.2.1],⟨b.2.2.2.1.1,u _ b.2.2.2.1.2.1,b.2.2.2.1.2.2.1,v b.2.2.2.1.2.2.2.1,b.2.2.2.1.2.2.2.2⟩,o⟩ B ?_));intro e i c;cases e with
   |normal=>
    obtain⟨bx,g,f⟩:=fQ.1 c;cases f;exact .inr ⟨_,_,mM b a d,bq,uN g⟩
   |_=>
    obtain⟨bx,g,f⟩:=fQ.1 c;cases f;cases a;exact .inl (d _ _ g)
  ·rename_i ci x cs;split at a
   ·rename_i c2 a3;refine J.cond a3 (λe=>?_) (λe=>?_)
    ·subst e;exact mM b a d
    subst e;exact mM b a d
   grind
  grind
 |.loop F a4 q,C,ic,m,j,A,k,r,l,b,a,d=>by
  simp only[h6] at a;split at a
  case h_2=>cases a
  rename_i x;obtain⟨c1,ap,a⟩:=e3.1 a;obtain⟨N,O,P⟩:=uN ap;refine J.post b.2.2.2.2 ?_;cases a4 with
  |r=>
   refine J.loop (lI F) a N O P ?_;intro i T y z;refine J.kg b.2.2.2.2 (mM b y ?_);intro e U c;cases e with
   |normal=>
    obtain⟨n,g,f⟩:=fQ.1 c;grind [uN]
   |_=>
    obtain⟨n,g,f⟩:=fQ.1 c;cases f;cases z;exact⟨(λa=>by cases a),.inl (d _ _ g)⟩
  |x id co=>
   refine J.loop (lI F) a N O P ?_;intro i T y z;refine J.kg b.2.2.2.2 (mM b y ?_);intro e U c;cases e with
   |normal=>
    obtain⟨n,g,f⟩:=fQ.1 c;grind [uN]
   |exit M=>
    simp only[QN] at c;split at c
    ·rename_i K;obtain rfl:=fJ K;obtain⟨n,g,f⟩:=fQ.1 c;cases f;exact⟨(λa=>by cases a),.inr ⟨_,_,d _ _ z,bq,uN g⟩⟩
    grind
   |_=>cases c
  |w5 id co=>
   refine J.loop (lI F) a N O P ?_;intro i T y z;refine J.kg b.2.2.2.2 (mM b y ?_);intro e U c;cases e with
   |normal=>
    obtain⟨n,g,f⟩:=fQ.1 c;grind [uN]
   |exit M=>
    simp only[QO] at c;split at c
    ·rename_i K;obtain rfl:=fJ K;obtain⟨n,g,f⟩:=fQ.1 c;cases f;exact⟨(λa=>by cases a),.inr ⟨_,_,d _ _ z,bq,uN g⟩⟩
    grind [arf]
   |_=>
    obtain⟨n,g,f⟩:=fQ.1 c;grind
 |.draw G,C,ic,m,j,A,k,r,l,b,a,d=>by
  simp only[h6] at a;split at a
  case h_2=>cases a
  rename_i id bl;cases w:vD bl (FN G) (Gf G) G with
  |false=>grind
  |true=>
  rw[w] at a;exact J.draw E.mix b w a (λi c=>d _ i c)
 |.An,C,ic,m,j,A,k,r,l,b,a,d=>by simp only[h6] at a;grind [J.An]
 |.q5 V q,C,ic,m,j,A,k,r,l,b,a,d=>by
  simp only[h6] at a;cases w:oi j.h V with
  |false=>grind
  |true=>
  rw[w] at a;intro H R p I;obtain⟨ad,ce,an,p⟩:=p;exact mM b a d H R (p.freeze (oi.ok w)) I
 |.fp id bs q,C,ic,m,j,A,k,r,l,b,a,d=>by
  simp only[h6] at a;split at a
  case h_2=>cases a
  rename_i ci i bs a0;split at a
  case isFalse=>cases a
  rename_i av;intro H R p I;obtain⟨ad,ce,an,p⟩:=p;exact mM b a d H R (p.YV ac a0 av) I
 |.keep D q,C,ic,m,j,A,k,r,l,b,a,d=>by
  simp only[h6] at a;split at a
  case h_2=>cases a
  rename_i n B;refine J.keep b.2.2.2.2 B ?_;intro S s t o u v;exact mM (ic:={ic with pin:=D++ic.pin,kg:=n++ic.kg}) ⟨b.1,b.2.1.trans s.symm,by rw[t,<-b.2.2.1],⟨b.2.2.2.1.1,u _ b.2.2.2.1.2.1,b.2.2.2.1.2.2.1,v b.2.2.2.1.2.2.2.1,b.2.2.2.1.2.2.2.2⟩,o⟩ a d
end
end
end Go.j5
end
