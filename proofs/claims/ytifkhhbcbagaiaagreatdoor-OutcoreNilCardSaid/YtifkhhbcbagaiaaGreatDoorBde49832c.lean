/-
  Parts of the proof: Fw38, Fw22, Fw23, Fw26, Fw27, Fw28, Fw34, Fw35, Fw37, Fw42, Fw45, Fw24, Fw29, Fw31: the framework (Fw), pure forms (Dn), plain laws (Pl, Th), calls of functions (Ok).
-/
import Derived.Laws.StructEq
import Derived.Test.YtifkhhbcbagaiaaGreatDoorB41666ed2

set_option linter.all false
set_option maxHeartbeats 1000000
open Go renaming TypeId->bC,Oper->bJ,Operand->bH,World->bz,Program->bQ,Exit->bU,callFunc->H0,execOp->bF,resolve->en,ResultVar->cd,undef->bL,Code->b7,IntKind->ca,Field->cA,sizeOf->eu,zeroValue->cr,typeInfo->cC,run_underlying->b1,newRow->cB,Addr->b6,builtin->ep,MapEntry->b5,binOp->cn,eqGuard->H6
open _root_ renaming List->bp,Nat->bo,Array->bN,Bool->bA,Option->bv,rfl->br,False->bY,if_true->b8,congrArg->cp,and_true->b2,Unit->bS,cond_true->bK,Int->bt,cond_false->cq,true_and->Is
open Bool renaming true->bu,false->bw,not_true->JR,or_false->JT,false_or->Js,true_and->JW,and_true->JX,false_and->Kt,eq_iff_iff->Jv
open Option renaming some->bn,none->bq,bind_some->IX,isSome->Jc,map_some->IM,isSome_none->JL,isSome_some->Jk,bind->bW
open Option.some renaming inj->JB,injEq->Kr
open Go.gG.aP renaming refl->b4,of_heap->Jq
open Go.gG.ar renaming here->HZ,cO->cb
open Go.Sem renaming run_bind->bP,run_pure->b9
open Go.Result renaming andThen_ok->bT,ok->Kx
open Go.Oper renaming wp->cc
open List renaming mem_flatten->Iq,mem_of_getElem?->IL,map_append->Ji,all_nil->JV,all_eq_true->Ie,replicate->bZ,any_eq_false->JZ,map_congr_left->H7,length->cz,mem_singleton->Ju,drop_drop->It,range->ct,length_drop->IK,map_toArray->Jm,map_nil->Jn,getElem?_eq_some_iff->Jb,getElem?_inj->JM,mem_append_left->Kw,append_eq_nil_iff->JE
open Pure renaming pure->Ih
open Array renaming mapM_eq_mapM_toList->JI,replicate->H9,getD_eq_getD_getElem?->JS,map->Jh,mem_append_right->er
open Go.Value.slice renaming injEq->cg
open Nat renaming sub_zero->Ks,zero_le->Jt,beq->bB,eq_of_beq_eq_true->et,blt->b3,ble->bR,lt_or_gt_of_ne->JA,lt_irrefl->Ku,mul_le_mul->Jf,one_mul->H4,mul_one->IB
open Iff renaming rfl->Ir
open Go.gG.ag renaming ids->bM,h7->Ia,cD->cu
open BitVec renaming ofInt->ch
open Int renaming toNat_of_nonneg->JY
open Go.World renaming cell?->Ii,frozen?_setCells->Jp,cell?_setCells_in->Ij,cell?_setCells_out->Iy
open Go.gG.aD renaming size->J0
open Go.gG.af renaming size->cw
open Go.Value renaming cells->JC,map->Ix,int->b0,pointer->HY
open Go.gG.ba renaming eval->H1
open Go.gG.c1 renaming alloc->ek
open Go.Instr renaming box->Jg,mapEntry->J1,mapUpdate->HX,keyThatStays->Iw,sameBits->JN,entryStore->Kv,sureAddr->cl
open Go.gG.a9 renaming alloc->IZ
open Go.gG.cM renaming alloc->IA
open Go.gG.al renaming pure->H2
open Go.MapEntry renaming mk->I6
open Go.gG renaming run_getObj_map->IC
open Go.Result.ok renaming injEq->J2
open Go.Op renaming equalIn->If,equal->IN,maxDepth->IP,eqFields->Jw,operands->bO
open Go.gG.Yields renaming wp->I1
open Go.Addr renaming add_lit->cy
open Go.Addr.mk renaming injEq->cm
open Go.Call renaming operands->eo
noncomputable section
namespace Go.gG
variable{a:Type}{b q:bC}{c:bp (bo×aj)}{e t:ag}{f n:bo}{h:ei}{i:aq}{j z:af}{k:bJ}{l:bp (bo×af)}{m N:bH}{o:bp ax}{p:bz}{r:bN (bo×bH)}{s:bQ}{u:bp (bo×bp ax)}{v:aq->Prop}{w:bo->ea}{x:bo->ei}{y:Value}{O:bp ag}{P:aj}{Q:ea}{S:bU->Act->bz->Prop}{T:bA}{V:bp aT}
section
def lo:bp ag->bp bA->bv (bo×bp ax)
 |.ref id (c::b)::_,bu::_=>bn (id,c::b)
 |_::as,_::a=>lo as a
 |_,_=>bq
def jv (id:bo) (a:ag):ag:=bif a.cD [id] then .dead else a
def hx (id:bo):bp ag->bp bA->bp ag
 |.ref _ (_::_)::as,bu::_=>.ref id []::as.map (jv id)
 |a::as,_::b=>jv id a::hx id as b
 |as,_=>as.map (jv id)
def gn {a:Type} (c:bo->a) (d:bo) (e:a):bo->a:=λb=>if b=d then e else c b
theorem hU {c:bo->a} {b:a}:gn c f b f=b:=by simp[gn]
theorem gE {b:bo->a} {d:a} (c:f≠n):gn b n d f=b f:=by simp[gn,c]
section
variable {E:cG} {C:a6} {st:aq} {A:dY} {w w':bz} {I I':aW} {rt:bo->ea} {fp:bo->ei}
theorem k5 {id:bo} (a:bo):ah ((id,P)::del [id] c) a=if id=a then bn P else ah c a:=by
 rw[aU];split
 ·rfl
 rename_i b;rw[gQ,a8 ab]
theorem aK.split (e:aK C st A w I rt fp) {id:bo} (n:ah st.h id=bn P) {k:j.den} {g z:ei} (E:al (az I C.B) w j Q k g) (v:(fp id).Perm (g++z)):aK C ⟨[],(id,⟨j,k⟩)::del [id] st.h⟩ A w I (gn rt id Q) (gn fp id g):=by
 obtain⟨_,F,G⟩:=e.tree id P n;have r:∀c∈g,c∈fp id:=λc d=>v.mem_iff.2 ab;have l:∀a b,ah ((id,(⟨j,k⟩:aj))::del [id] st.h) a=bn b->(a=id/\b=⟨j,k⟩)\/(a≠id/\ah st.h a=bn b):=λa b q=>(by grind [JB,k5]);refine{e with tree:=?_,dis:=?_,tmp:=λa=>.dead _}
 ·intro a b q;rcases l a b q with⟨rfl,rfl⟩|⟨f,i⟩
  ·grind [List.nodup_append,hU]
  rw[gE f,gE f];exact e.tree a b i
 intro x y b D t u m c d;rcases l x b t with⟨rfl,rfl⟩|⟨f,i⟩<;>rcases l y D u with⟨rfl,rfl⟩|⟨o,p⟩
 ·omega
 ·rw[hU] at d;rw[gE o];exact e.dis _ _ _ _ n p m c (r c d)
 ·rw[gE f] at d;rw[hU];exactλs=>e.dis _ _ _ _ i n m c d (r c s)
 rw[gE f] at d;rw[gE o];exact e.dis _ _ _ _ i p m c d
def aJ.jv (l:aK C st A w I rt fp) {id:bo} {q:aj} {i:ea} {j:ei} {a:ag} {f:Value} (k:aJ (az I C.B) w st.h rt fp a f):aJ (az I C.B) w ((id,q)::del [id] st.h) (gn rt id i) (gn fp id j) (jv id a) f:=by
 unfold gG.jv;cases o:a.cD [id] with
 |true=>exact .dead _
 |false=>
  refine k.j5 (λr g n=>⟨n,b4 _ _⟩) (λd m p e=>?_);have c:d≠id:=λb=>qL o d m (by simp[b]);refine⟨?_,gE c,gE c,(l.tree d p e).1,λg _=>b4 _ _⟩;rw[k5,a8 (λb=>c b.symm)];exact e
theorem x7 (p:aK C st A w I rt fp) {id:bo} (F:ah st.h id=bn P) {y:j.den} {u:Loc} {f:ei} {r:ax} (D:ar w P.1 bq (rt id) (r::o) j u Q):∀{d:bp ag} {c:bp bA} {a:ea},eU (aJ (az I C.B) w st.h rt fp) d a->lo d c=bn (id,r::o)->eU (aJ (az I C.B) w ((id,⟨j,y⟩)::del [id] st.h) (gn rt id Q) (gn fp id f)) (hx id d c) a:=by
 have G:∀{d:bp ag} {a:ea},eU (aJ (az I C.B) w st.h rt fp) d a->eU (aJ (az I C.B) w ((id,⟨j,y⟩)::del [id] st.h) (gn rt id Q) (gn fp id f)) (d.map (gG.jv id)) a:=by
  intro d
  induction d with
  |nil=>intro a b;cases a with|nil=>trivial|cons=>exact b.elim
  |cons e m n=>intro a b;cases a with|nil=>exact b.elim|cons H a=>exact⟨b.1.jv p,n b.2⟩
 intro d
 induction d with
 |nil=>intro c a _ b;cases c<;>cases b
 |cons e m n=>
  intro c a b i;cases a with
  |nil=>exact b.elim
  |cons H a=>
  cases c with
  |nil=>cases e<;>first|(cases i;done)|(rename_i l g;cases g<;>cases i)
  |cons k c=>
   by_cases z:∃l s g,e=.ref l (s::g)/\k=bu
   ·obtain⟨l,s,g,rfl,rfl⟩:=z;simp only[lo,aV,eT,eQ] at i;obtain⟨rfl,rfl,rfl⟩:=i;have x:=b.1;cases x with|ref q E=>
    rw[F] at q;cases q;obtain⟨rfl,rfl,rfl⟩:=E.fM D;refine⟨.ref (t:=⟨_,y⟩) (loc:=bq) (by rw[k5,bc br]) ?_,G b.2⟩;rw[hU];exact HZ
   have ak:lo (e::m) (k::c)=lo m c:=by cases e<;>first|rfl|(rename_i l g;cases g<;>cases k<;>first|rfl|grind)
   have v:hx id (e::m) (k::c)=gG.jv id e::hx id m c:=by cases e<;>first|rfl|(rename_i l g;cases g<;>cases k<;>first|rfl|grind)
   rw[ak] at i;rw[v];exact⟨b.1.jv p,n b.2 i⟩
theorem hE.Ct (J:aK C st A w I rt fp) {id:bo} (z:ah st.h id=bn P) {x:j.den} (fT:aX P.1 P.2 o j x) {a3:Loc} (cv:ar w P.1 bq (rt id) o j a3 Q):∃p u,al (az I C.B) w j Q x p/\(fp id).Perm (p++u)/\∀{w':bz} {I':aW} {s:ei} {K:bp (bo×bp ax)} {D:bp (bo×aj)} {N:bo->ea} {E:bo->ei} {O:j.den} {t:P.1.den},hE C ⟨[],(id,⟨j,x⟩)::del [id] st.h⟩ w w' I I' (gn rt id Q) (gn fp id p) s K D N E->id∈s->ah D id=bn ⟨j,O⟩->(id,[])∈K->(∀l∈K,l.2=[])->be P.1 P.2 o j O t->∃d5 eq,hE C st w w' I I' rt fp s ((id,o)::K) ((id,⟨P.1,t⟩)::D) d5 eq/\∀k,k≠id->d5 k=N k:=by
 obtain⟨f9,d4,gc⟩:=J.tree id P z;obtain⟨kd,gt,p,u,ex,fn,fs,G,ic,ft,fx⟩:=oL o (loc:=bq) f9 (λ_ _ b=>by cases b) d4 (λ_ _ b=>by cases b) (J.notM z) fT;obtain⟨_,rfl,rfl⟩:=cv.fM ex;refine⟨p,u,fn,G,λ{w' I' s K D N E O t} f ce V q f1 dl=>?_⟩;have i3:∀a∈p,a∈fp id:=λa c=>G.mem_iff.2 ab;have is:=gI.1 (G.nodup_iff.1 d4);have M:∀a,(∃d∈s,∃e,ah ((id,(⟨j,x⟩:aj))::del [id] st.h) d=bn e/\a∈gn fp id p d)->∃d∈s,∃e,ah st.h d=bn e/\a∈fp d/\(d=id->a∈p):=by
  rintro a ⟨d,n,e,g,c⟩;by_cases l:d=id
  ·grind [hU]
  rw[k5,a8 (λem=>l em.symm)] at g;grind [gE]
 have am:∀a∈u,a<w.heap.size/\¬∃d∈s,∃e,ah ((id,(⟨j,x⟩:aj))::del [id] st.h) d=bn e/\a∈gn fp id p d:=λa c=>by
  have L:a∈fp id:=G.mem_iff.2 ab;refine⟨(gc a L).2.2.1,λb=>?_⟩;obtain⟨d,_,e,g,m,H⟩:=M a b;by_cases l:d=id
  ·grind
  exact J.dis d id e P g z l a m L
 have S:∀a∈u,w'.heap[a]?=w.heap[a]?:=λa c=>f.heap a (am a c).1 (λd n e g b=>(am a c).2 ⟨d,n,e,g,b⟩);have ii:∀F a,az I C.B F a->aP w w' a:=λF a U=>.of_heap (f.heap a (J.ib a (hq U)) (λd n e g b=>by
  obtain⟨d,_,e,g,m,_⟩:=M a ⟨d,n,e,g,b⟩;exact J.notM g a m F U))
 obtain⟨_,an,aA,aH⟩:=f.tree id _ V;obtain⟨v,i8,_,ds,_⟩:=f.keep _ q ⟨j,x⟩ (by rw[k5,bc br]);simp only[hU] at ds;rw[ds] at an;have el:∀a,aP w w' a->km w w' a3 j.size a:=λa b=>⟨λr _=>(b.1 r).1,λr=>(b.1 r).2,λr=>by rw[(b.1 r).1],b.2⟩;obtain⟨hp,bl,f6,_,f8,_,d0,_,f7⟩:=ft w' (az I' C.B) Q O (E id) t (λF a c=>by cases F;exact f.i a c;exact c.imp (f.i a) (λb=>b)) f.le (by
   rintro a (⟨F,U⟩|c|⟨d1,i0⟩)
   ·grind
   ·exact el a (.of_heap (S a c))
   grind) an (λ_ _=>rfl)
  (λa d1 f2=>by
   have c:a∈u:=ab;exact(fs a d1 f2).1.cQ (.of_heap (S a c))) dl
 obtain rfl:=f8 br (.inr br);have R:∀a∈bl,a∈E id\/a∈u:=λa c=>fY.1 (d0.mem_iff.1 c);have it:∀k e,ah D k=bn e->∀a∈E k,a∉u:=λk e q a c i1=>by
  rcases((f.tree k e q).2.2.2 a c).2.2 with b|b
  ·grind
  grind
 have ad:∀k v,ah ((id,(⟨P.1,t⟩:aj))::D) k=bn v->(k=id/\v=⟨P.1,t⟩)\/(k≠id/\ah D k=bn v):=λk v q=>(by rw[aU] at q;grind);have cs:∀a,(w.heap.size<=a\/∃d∈s,∃e,ah ((id,(⟨j,x⟩:aj))::del [id] st.h) d=bn e/\a∈gn fp id p d)->w.heap.size<=a\/∃d∈s,∃e,ah st.h d=bn e/\a∈fp d:=λa b=>b.imp (λb=>b) (λb=>by
  obtain⟨d,n,e,g,m,_⟩:=M a b;grind)
 refine⟨gn N id (rt id),gn E id bl,⟨f.size,f.os,f.tape,f.output,?_,f.evo,f.i,?_,?_,?_,?_,?_,f.le⟩,λk q=>gE q⟩
 ·intro a c io;refine f.heap a c (λd n e g b=>?_);obtain⟨d,n,e,g,m,_⟩:=M a ⟨d,n,e,g,b⟩;grind
 ·intro a c;exact(f.i2 a c).imp (λb=>b) (λb=>⟨b.1,cs a b.2⟩)
 ·intro k v q;rcases ad k v q with⟨rfl,rfl⟩|⟨m,H⟩
  ·rw[hU,hU];refine⟨.inl ce,f6,?_,λa c=>?_⟩
   ·grind
   rcases R a c with c|c
   ·obtain⟨d6,d7,d8⟩:=aH a c;grind
   have L:a∈fp k:=G.mem_iff.2 ab;refine⟨λn=>?_,gv (am a c).1 f.size,.inr ⟨k,ce,P,z,L⟩⟩;rcases f.i2 a n with b|⟨_,b|b⟩
   ·grind
   ·grind
   grind
  rw[gE m,gE m];obtain⟨ge,d6,d7,d8⟩:=f.tree k v H;refine⟨ge.imp (λb=>b) (λb=>?_),d6,d7,λa c=>?_⟩
  ·have b:ah ((id,(⟨j,x⟩:aj))::del [id] st.h) k=bq:=b;rw[k5,a8 (λl=>m l.symm)] at b;exact b
  obtain⟨ap,av,a0⟩:=d8 a c;exact⟨ap,av,cs a a0⟩
 ·intro d r gf gh n f0 T a c;rcases ad d gf n with⟨rfl,rfl⟩|⟨m,H⟩<;>rcases ad r gh f0 with⟨rfl,rfl⟩|⟨bs,bx⟩
  ·omega
  ·rw[hU] at c;rw[gE bs];rcases R a c with c|c
   ·exact f.dis d r _ _ V bx T a c
   grind
  ·rw[gE m] at c;rw[hU];intro b;rcases R a b with b|b
   ·exact f.dis d r _ _ H V T a c b
   grind
  rw[gE m] at c;rw[gE bs];exact f.dis d r _ _ H bx T a c
 ·intro l y e g;rcases c2.1 y with rfl|y
  ·rw[z] at g;cases g;exact⟨⟨P.1,t⟩,by rw[aU,bc br],br,hU,⟨_,cv.ty⟩,f7⟩
  by_cases ak:l.1=id
  ·rw[ak,z] at g;cases g;refine⟨⟨P.1,t⟩,by rw[aU,bc ak.symm],br,by grind [hU],⟨P.1,by rw[f1 l y];cases P.1<;>rfl⟩,λd2 _ _ _ q=>?_⟩;grind [p0]
  obtain⟨ap,av,a0,gl,go,d9⟩:=f.keep l y e (by rw[k5,a8 (λb=>ak b.symm)];omega);rw[gE ak] at gl d9;exact⟨ap,by rw[aU,a8 (λb=>ak b.symm)];exact av,a0,by grind [gE],go,d9⟩
 intro l y e g d2 lb kg jp gs hs ci f4 f3 co f5;rcases c2.1 y with rfl|y
 ·rw[z] at g;cases g;refine⟨⟨P.1,t⟩,by rw[aU,bc br],kR ci dl co,λa4 fz=>?_⟩;obtain⟨d3,an⟩:=fx d2 _ _ _ _ _ ci (by exact f4) co f3 f5 a4 fz;rw[hU];exact⟨d0.mem_iff.2 (jB _ d3),.of_heap (S a4 d3)⟩
 grind [lW]
theorem ba.sub {o:bo} {u:bp ag} {e ad:bN _} (d3:k.op=.call {callee:=.value m,args:=e,argTypes:=ad}) (ex:aw st.g m=.aR o u) (co:k.dst=bn n) (cs:C.ok n) (f6:∀(U:dY) (w:bz),(H0 o U).run E.P w=.ok (.enter o U) w) {d:bp aj} (ci:jz E o V d) (d8:ha 0 V=bq) (a3:∀r,C.I0 r\/C.B r->r<C.w0.heap.size/\¬C.F0 r) (a4:gu E C.I0 C.w0) {id:bo} {i:aj} (t:ah st.h id=bn i) {A:ax} {p:bp ax} {D:j.den} (R:aX i.1 i.2 (A::p) j D) {c:bp bA} (d9:lo (e.toList.map (aw st.g)++u) c=bn (id,A::p)) (bx:O=hx id (e.toList.map (aw st.g)++u) c) (N:fB ((id,⟨j,D⟩)::del [id] st.h) (cY O V) O V) (F:g1 n ⟨[],(id,⟨j,D⟩)::del [id] st.h⟩ O V d=bu) (S:V.all lg=bu) (bs:id∈cY O V) (bl:id∈fR O V) {y':j.den} {z:i.1.den} (ds:ah (fH O V++fh n (fg d) 0 d) id=bn ⟨j,y'⟩) (d7:be i.1 i.2 (A::p) j y' z) (a:v ⟨(n,ll n d)::kill (cY O V) ((id,A::p)::k2 (fR O V)) st.g,((id,⟨i.1,z⟩)::(fH O V++fh n (fg d) 0 d))++del (cY O V) st.h⟩):ba E C k st v:=by
 rintro b w ⟨I,rt,fp,l⟩ next f1 d2
 obtain⟨q,eq,a0⟩:∃q:dY,b.eval m=.func (.func o) #[] q/\eU (aJ (az I C.B) w st.h rt fp) u q.toList:=by
  have H:=l.aw m;rw[ex] at H;generalize gc:b.eval m=gs at H;cases H with|aR f8 f7=>
  grind [oi]
 have ce:eU (aJ (az I C.B) w st.h rt fp) (e.toList.map (aw st.g)++u) (e.toList.map b.eval++q.toList):=pq (q5 (λm=>l.aw m) _) a0;obtain⟨fx,fz,gf⟩:=l.tree id i t;obtain⟨f0,f2,_,_,K,_⟩:=kW (A::p) (loc:=bq) fx (λ_ _ a=>by cases a) fz (λ_ _ a=>by cases a) (l.notM t) R;obtain⟨an,gh,fs,ft,d4⟩:=hE.Ct l t R K;have M:=l.split t fs ft;have G:=x7 (y:=D) (f:=an) l t K ce d9;rw[<-bx] at G;have Q:=M.call G ci N F (λ_ _=>by rw[d8];trivial) (M.glob a3 a4) (nn S);have dl:∀{J:ei} {a:bp (bo×aj)} {as:bp ag} {c:bp aT},fB a J as c->as.length=c.length:=by
  intro J a as
  induction as with
  |nil=>intro c a;cases c with|nil=>rfl|cons=>exact a.elim
  |cons b as fn=>intro c a;cases c with|nil=>cases b<;>exact a.elim|cons r c=>simp[fn a.2]
 rw[s4 S ((pt G).trans (dl N))] at Q;have d6:(bF b.eval k).run E.P w=.ok (.enter o (e.toList.map b.eval++q.toList).toArray) w:=(by have ak:e.map b.eval=(e.toList.map b.eval).toArray:=(by rw[<-Array.toList_map]);have am:(e.toList.map b.eval++q.toList).toArray=(e.toList.map b.eval).toArray++q:=aa;rw[am];simp only[bF,d3,en,ak,bP,eq,Deferred.ofValue,b9,bT,invoke,Array.empty_append,Array.append_empty];grind);unfold cc;rw[d6];show Calls E.P o _ w _;refine Q.mono ?_;rintro s w' ⟨I',gl,f3,fT,rfl,_,el,d5⟩;show next (b.put k.dst (ih fT)) w'
 rw[co];obtain⟨go,f4,em,f9⟩:=d4 el bs ds (c9.2 ⟨id,bl,br⟩) (λs cv=>by obtain⟨ge,_,rfl⟩:=c9.1 cv;rfl) d7;simp only[g1,aC,cX] at F;have d0:=fA.ok F.1.2;refine d2 _ _ _ a br ⟨I',_,_,(l.il em).put cs (av:=ll n d) (d5 _ _ _ (λx T=>?_))⟩;have ap:=xn d0 x T;have L:=F.2 x T;have d1:x.1≠id:=λs=>(by rw[s,k5,bc br] at L;cases L);have f5:ah ((id,(⟨i.1,z⟩:aj))::(fH O V++fh n (fg d) 0 d)) x.1=bn x.2:=(by rw[aU,a8 (λs=>d1 s.symm)];exact ap);grind [fS,bg]
end
end
section
def dd (a:bo):bo:=400000+a
def cZ:bo->bp aT->bp (bo×ag)
 |_,[]=>[]
 |k,.v b::a=>(k,.val b.1 b.2)::cZ (k+1) a
 |k,.mg bw _ _::a=>(k,.ref k [])::cZ (k+1) a
 |k,.mg bu _ _::a=>cZ (k+1) a
 |k,.d e f g::a=>(k,bif g then .addr (dd e) f else .ref (dd e) f)::cZ (k+1) a
 |k,.o _::a=>(k,.ref k [])::cZ (k+1) a
 |k,.n::a=>(k,.aS (.slice bq 0 0))::cZ (k+1) a
 |k,.w _ _ i h _::a=>(k,.view k [] i h)::cZ (k+1) a
 |k,.s _ _::a=>cZ (k+1) a
 |k,.c j l::a=>(k,.aR j (l.map λb=>.val b.1 b.2))::cZ (k+1) a
def eY:bo->bp aT->bp (bo×aj)
 |_,[]=>[]
 |k,.v _::a=>eY (k+1) a
 |k,.mg e b _::a=>(bif e then dd k else k,b)::eY (k+1) a
 |k,.d _ _ _::a=>eY (k+1) a
 |k,.o b::a=>(k,b)::eY (k+1) a
 |k,.w g f _ _ _::a=>(k,⟨.osl g,f⟩)::eY (k+1) a
 |k,.c _ _::a|k,.n::a|k,.s _ _::a=>eY (k+1) a
def e7:bo->bp aT->ei
 |_,[]=>[]
 |k,.mg bw _ _::a|k,.w _ _ _ _ _::a|k,.d _ _ _::a=>k::e7 (k+1) a
 |k,_::a=>e7 (k+1) a
def fC:bo->bp aT->ei
 |_,[]=>[]
 |k,.mg b _ _::a=>(bif b then dd k else k)::fC (k+1) a
 |k,.w _ _ _ _ _::a=>k::fC (k+1) a
 |k,_::a=>fC (k+1) a
def lC (a:a6):bv dJ->Prop
 |none=>True
 |some (c,g,d)=>c∈a.pin/\(∀h∈d,h∈a.pin)/\∃b e f,a.vs c=.pointer (bn ⟨b,e,bq⟩)/\b<a.w0.heap.size/\¬a.F0 b/\a.w0.cell? ⟨b,e,bq⟩=bn (.func (.func g) #[] f)/\f.toList=d.map a.vs
def hb:bv dJ->ei
 |none=>[]
 |some (a,_,b)=>a::b
def mV (b:af) (d:b.den) (c:bp ax):(τ:af)->τ.den->Prop
 |.nu e τ,a=>aX b d c (.nu e τ) a\/∃f,a=bn f/\aX b d c (.opt e τ) f
 |.eB g,a=>g6 g=bw/\mV b d c g a
 |τ,a=>aX b d c τ a
def mV.get {i:af} {j:i.den} {p:bp ax}:∀{τ:af} {b:τ.den},mV i j p τ b->∃(d:af) (h:d.den),aX i j p d h/\(∀(e:aZ) (g:bz) (c:ea) (f:ei),al e g d c h f->al e g τ c b f)/\∀c,aN d c=aN τ c
 |.nu q τ,b,a=>by
  rcases a with a|⟨r,rfl,a⟩
  ·exact⟨_,_,a,λ_ _ _ _ a=>a,λ_=>rfl⟩
  exact⟨.opt q τ,r,a,λ_ _ _ _ a=>a,λ_=>rfl⟩
 |.eB s,b,a=>by obtain⟨o,a⟩:=a;obtain⟨d,h,k,l,m⟩:=mV.get (τ:=s) a;exact⟨d,h,k,λe g c f n=>⟨e.t,l e g c f n⟩,λc=>(m c).trans (nU o)⟩
 |.int _,b,a|.bool,b,a|.str,b,a|.au _ _,b,a|.ptr _ _,b,a|.osl _,b,a|.opt _ _,b,a|.st _,b,a|.pr _ _,b,a|.nil,b,a|.aY,b,a|.mp _,b,a|.bh _ _,b,a|.fn _ _,b,a|.aM,b,a|.aB _,b,a=>
  ⟨_,b,a,λ_ _ _ _ a=>a,λ_=>rfl⟩
def ky (j:bQ) (e:aq) (a:aj):cd->ei->Prop
 |.tmp m,c=>match gt e.g m with
  |.val i n=>(⟨i,n⟩:aj)=a/\c=[]
  |.aS f=>eZ a.1 f.cells.toList=bn a.2/\aN a.1 f.cells.toList=f/\c=[]
  |.ref id d=>c=[id]/\∃b,ah e.h id=bn b/\mV b.1 b.2 d a.1 a.2
  |_=>bY
 |.cell l k,c=>bi j a.1 k/\match gt e.g l with
  |.ref id d=>c=[id]/\∃b i,ah e.h id=bn b/\bm b.1 d=bn (.opt 0 i)/\aX b.1 b.2 (d++[.deref]) a.1 a.2
  |_=>bY
def lA (b:bQ) (d:aq):bp cd->bp aj->ei->Prop
 |[],[],a=>a=[]
 |r::f,e::g,a=>e.1.cK=bu/\∃i1 c,a=i1++c/\ky b d e r i1/\lA b d f g c
 |_,_,_=>bY
def ga (a:aq):bo->bp aT->Prop
 |_,[]=>True
 |k,.mg bu c e::b=>(ah a.h (dd k)=bn ⟨c.1,e⟩/\c.1.cK=bu/\hn c.1=bu)/\ga a (k+1) b
 |k,.mg bw c e::b=>(gt a.g k=.ref k []/\ah a.h k=bn ⟨c.1,e⟩/\c.1.cK=bu/\ki c.1=bu)/\ga a (k+1) b
 |k,.w n p i f m::b=>(gt a.g k=.view k [] i f/\ah a.h k=bn ⟨.osl n,m⟩/\(n.cK=bu/\i<f)/\m.length=p.length)/\ga a (k+1) b
 |k,.d j l o::b=>gt a.g k=(bif o then .addr (dd j) l else .ref (dd j) l)/\ga a (k+1) b
 |k,_::b=>ga a (k+1) b
def tj (e:bQ) (a:bp aT) (g:bp cd) (f:bp aj) (b:bU) (d:aq):Prop:=
 (b=.normal\/b=.ret)/\∃c,lA e d g f c/\fA (fC 0 a++c)=bu/\ga d 0 a
section
variable {E:cG}
theorem yK {i:aW} {h:bo->Prop} {a:bp aj} (g:eU (n6 i h p) a Q):aJ (az i h) p c w x (.aR f (a.map λb=>.val b.1 b.2)) (.func (.func f) #[] Q.toArray):=by
 have s:=pt g;refine .aR ab (λe q k d j=>?_);have l:∀{a:bp aj} {Q:ea} {e:bo} {b:aj} {k:Value},eU (n6 i h p) a Q->a[e]?=bn b->Q[e]?=bn k->n6 i h p b k:=by
  intro a
  induction a with
  |nil=>grind
  |cons u a o=>
   intro Q e b k g d j;cases Q with
   |nil=>grind
   |cons t Q=>
    cases e with
    |zero=>simp only[fe,aV] at d j;subst d j;exact g.1
    |succ e=>exact o g.2 (by simpa using d) ab
 rw[gH] at d;obtain⟨b,n,rfl⟩:=cF.1 d;obtain⟨r,rfl,m⟩:=l g n (by simpa using j);exact .val m
def pY:aT->bA
 |.d _ _ _=>bu
 |_=>bw
def g5:aT->bo->bo
 |.mg bu _ _,a=>dd a
 |_,a=>a
def z8 {d e:aT} (m:f<400000) (o:n<400000) (l:f≠n):g5 d f≠g5 e n:=by
 have g:∀(c:aT) (a:bo),g5 c a=a\/g5 c a=dd a:=λc a=>by cases c<;>first|exact .inl br|(rename_i b _ _;cases b;exact .inl br;exact .inr br)
 have b:∀a,dd a=400000+a:=λ_=>rfl;have j:=b f;have k:=b n;rcases g d f with h|h<;>rcases g e n with i|i<;>rw[h,i]<;>omega
def tD {A:aW} {z:bo->Prop} {w:bz}:∀{k:bo} {e:bp aT} {D:ea} {I:dV},k+e.length<=400000->fi (jx A z w) e D I->∃(u:bo->ea) (p:bo->ei),(∀id b,ah (eY k e) id=bn b->∃a g,e[a]?=bn g/\id=g5 g (k+a)/\(∃E,I[a]?=bn E/\p id=E)/\al (az A z) w b.1 (u id) b.2 (p id))/\(∀a,gt (cZ k e) (k+a)=.dead\/(∃g,e[a]?=bn g/\pY g=bu)\/∃v,D[a]?=bn v/\(∀b h,e[a]?≠bn (.mg bu b h))/\aJ (az A z) w (eY k e) u p (gt (cZ k e) (k+a)) v)/\(∀a,a<k->gt (cZ k e) a=.dead)/\(∀a b h v,e[a]?=bn (.mg bu b h)->D[a]?=bn v->ah (eY k e) (dd (k+a))=bn b/\v=aN b.1 (u (dd (k+a))))
 |k,[],D,I,_,f=>⟨λ_=>[],λ_=>[],(λid b f=>by cases f),(λa=>.inl br),(λa _=>rfl),λa b h v f=>by simp at f⟩
 |k,g::e,[],I,_,f|k,g::e,v::D,[],_,f=>f.elim
 |k,g::e,v::D,E::I,d6,f=>by
  obtain⟨m,F⟩:=f;simp only[gU] at d6;obtain⟨u,p,i1,ci,am,co⟩:=tD (k:=k+1) U F;have ce:∀id b,ah (eY (k+1) e) id=bn b->∃a i,(g::e)[a]?=bn i/\id=g5 i (k+a)/\(∃H,(E::I)[a]?=bn H/\p id=H)/\al (az A z) w b.1 (u id) b.2 (p id):=λid b ad=>(by obtain⟨a,i,t,r,aA,aH⟩:=i1 id b ad;exact⟨a+1,i,by simpa using t,by rw[r];congr 1;omega,by simpa using aA,aH⟩);have bs:∀id b,ah (eY (k+1) e) id=bn b->id≠g5 g k:=λid b ad=>(by obtain⟨a,i,t,r,_⟩:=i1 id b ad;have S:a<e.length:=(e5.1 t).1;rw[r];exact z8 U U U);have R:eY k (g::e)=eY (k+1) e->(∀b h,g≠.mg bu b h)->(gt (cZ k (g::e)) k=.dead\/pY g=bu\/aJ (az A z) w (eY (k+1) e) u p (gt (cZ k (g::e)) k) v)->(∀a,a≠k->gt (cZ k (g::e)) a=gt (cZ (k+1) e) a)->_:=λak a4 d4 y=>by
   refine(⟨u,p,?_,?_,?_,?_⟩:∃(u:bo->ea) (p:bo->ei),(∀id b,ah (eY k (g::e)) id=bn b->∃a i,(g::e)[a]?=bn i/\id=g5 i (k+a)/\(∃H,(E::I)[a]?=bn H/\p id=H)/\al (az A z) w b.1 (u id) b.2 (p id))/\(∀a,gt (cZ k (g::e)) (k+a)=.dead\/(∃i,(g::e)[a]?=bn i/\pY i=bu)\/∃l,(v::D)[a]?=bn l/\(∀b h,(g::e)[a]?≠bn (.mg bu b h))/\aJ (az A z) w (eY k (g::e)) u p (gt (cZ k (g::e)) (k+a)) l)/\(∀a,a<k->gt (cZ k (g::e)) a=.dead)/\(∀a b h l,(g::e)[a]?=bn (.mg bu b h)->(v::D)[a]?=bn l->ah (eY k (g::e)) (dd (k+a))=bn b/\l=aN b.1 (u (dd (k+a)))))
   ·rw[ak];exact ce
   ·intro a;rw[ak];cases a with
    |zero=>exact d4.imp id (λf=>f.imp (λf=>⟨g,br,f⟩) (λf=>⟨v,br,λb h C=>a4 b h (c6 C),f⟩))
    |succ a=>
     rw[y _ U,(U:k+(a+1)=k+1+a)];exact(ci a).imp id (λf=>f.imp (λ⟨i,f⟩=>⟨i,by simpa using f⟩) (λ⟨l,m,F,d5⟩=>⟨l,by simpa using m,by simpa using F,d5⟩))
   ·intro a S;rw[y _ U];exact am a U
   intro a b h l m F;rw[ak];cases a with
   |zero=>simp only[fe,aV] at m;exact absurd m (a4 b h)
   |succ a=>
    rw[(U:k+(a+1)=k+1+a)];exact co a b h l (by simpa using m) (by simpa using F)
  have T:∀(b:aj) (B:ea),(gt (cZ k (g::e)) k=.dead\/(∀b h,g≠.mg bu b h)/\∀(M:bp (bo×aj)) (L:bo->ea) (P:bo->ei),ah M (g5 g k)=bn b->L (g5 g k)=B->aJ (az A z) w M L P (gt (cZ k (g::e)) k) v)->v=aN b.1 B\/(∀b h,g≠.mg bu b h)->al (az A z) w b.1 B b.2 E->eY k (g::e)=(g5 g k,b)::eY (k+1) e->(∀a,a≠k->gt (cZ k (g::e)) a=gt (cZ (k+1) e) a)->(∀dl h,g=.mg bu dl h->dl=b)->_:=λb B j d9 y ak a0 d8=>by
   refine(⟨λQ=>if Q=g5 g k then B else u Q,λQ=>if Q=g5 g k then E else p Q,?_,?_,?_,?_⟩:∃(u:bo->ea) (p:bo->ei),(∀id b,ah (eY k (g::e)) id=bn b->∃a i,(g::e)[a]?=bn i/\id=g5 i (k+a)/\(∃H,(E::I)[a]?=bn H/\p id=H)/\al (az A z) w b.1 (u id) b.2 (p id))/\(∀a,gt (cZ k (g::e)) (k+a)=.dead\/(∃i,(g::e)[a]?=bn i/\pY i=bu)\/∃l,(v::D)[a]?=bn l/\(∀b h,(g::e)[a]?≠bn (.mg bu b h))/\aJ (az A z) w (eY k (g::e)) u p (gt (cZ k (g::e)) (k+a)) l)/\(∀a,a<k->gt (cZ k (g::e)) a=.dead)/\(∀a b h l,(g::e)[a]?=bn (.mg bu b h)->(v::D)[a]?=bn l->ah (eY k (g::e)) (dd (k+a))=bn b/\l=aN b.1 (u (dd (k+a)))))
   ·intro id G J;rw[ak,aU] at J;split at J
    ·rename_i C;subst C;obtain rfl:=c6 J;exact⟨0,g,br,br,⟨E,br,aa⟩,by simpa using y⟩
    rename_i C;obtain⟨a,i,t,r,aA,aH⟩:=ce id G J;have ap:¬id=g5 g k:=λf=>C f.symm;refine⟨a,i,t,r,?_,?_⟩
    ·simpa only[a8 ap] using aA
    simpa only[a8 ap] using aH
   ·intro a;cases a with
    |zero=>
     rcases j with j|j
     ·exact .inl j
     exact .inr (.inr ⟨v,br,λb h C=>j.1 b h (c6 C),j.2 _ _ _ (by rw[ak,aU,bc br]) aa⟩)
    |succ a=>
     rw[a0 _ U,(U:k+(a+1)=k+1+a)];refine(ci a).imp id (λf=>f.imp (λ⟨i,f⟩=>⟨i,by simpa using f⟩) ?_);rintro⟨l,t,eq,r⟩;refine⟨l,by simpa using t,by simpa using eq,r.j5 (λft i d7=>⟨d7,b4 w i⟩) (λid _ G J=>?_)⟩;have N:=bs id G J;obtain⟨_,_,_,_,_,ex⟩:=i1 id G J;exact⟨by rw[ak,aU,a8 (λf=>N f.symm)];exact J,by simp[N],by simp[N],ex,λi _=>b4 w i⟩
   ·intro a S;rw[a0 _ U];exact am a U
   intro a G h l m F;cases a with
   |zero=>
    simp only[fe,aV] at m F;have d2:=d8 G h m;subst d2 F;have d3:g5 g k=dd (k+0):=(by rw[m];rfl);rw[<-d3];refine⟨by rw[ak,aU,bc br],?_⟩;simp only[b8];exact d9.resolve_right (λf=>f G h m)
   |succ a=>
    rw[(U:k+(a+1)=k+1+a)];obtain⟨t,r⟩:=co a G h l (by simpa using m) (by simpa using F);have N:=bs _ G t;exact⟨by rw[ak,aU,a8 (λf=>N f.symm)];exact t,by simpa only[a8 N] using r⟩
  have K:∀{av:ag},cZ k (g::e)=(k,av)::cZ (k+1) e->gt (cZ k (g::e)) k=av/\∀a,a≠k->gt (cZ k (g::e)) a=gt (cZ (k+1) e) a:=λC=>(by rw[C];exact⟨by rw[gz,bc br],λa S=>by rw[gz,a8 (λf=>S f.symm)]⟩);have bl:cZ k (g::e)=cZ (k+1) e->gt (cZ k (g::e)) k=.dead/\∀a,a≠k->gt (cZ k (g::e)) a=gt (cZ (k+1) e) a:=λC=>(by rw[C];exact⟨am k U,λ_ _=>rfl⟩);cases g with
  |v b=>
   obtain⟨rfl,B,j,y⟩:=m;obtain⟨x,q⟩:=K (av:=.val b.1 b.2) rfl;exact R br (λ_ _ f=>by cases f) (.inr (.inr (by rw[x,j];exact .val y))) q
  |n=>
   obtain⟨rfl,j⟩:=m;obtain⟨x,q⟩:=K (av:=.aS (.slice bq 0 0)) rfl;exact R br (λ_ _ f=>by cases f) (.inr (.inr (by rw[x,j];exact .aS _))) q
  |s a3 fp=>
   obtain⟨x,q⟩:=bl br;exact R br (λ_ _ f=>by cases f) (.inl x) q
  |d cs cv d1=>
   obtain⟨_,q⟩:=K (av:=bif d1 then .addr (dd cs) cv else .ref (dd cs) cv) rfl;exact R br (λ_ _ f=>by cases f) (.inr (.inl br)) q
  |c n fn=>
   obtain⟨rfl,fx,j,y⟩:=m;obtain⟨x,q⟩:=K (av:=.aR n (fn.map λ(b:aj)=>.val b.1 b.2)) rfl;exact R br (λ_ _ f=>by cases f) (.inr (.inr (by rw[x,j];exact yK y))) q
  |mg a3 b h=>
   obtain⟨B,j,y⟩:=m;cases a3 with
   |false=>
    obtain⟨x,q⟩:=K (av:=.ref k []) rfl;exact T b B (.inr ⟨(λ_ _ f=>by cases f),λM L P t r=>by rw[x,j,<-r];exact .ref (loc:=bq) t HZ⟩) (.inl j) y br q (λ_ _ f=>by cases f)
   |true=>
    obtain⟨x,q⟩:=bl br;exact T b B (.inl x) (.inl j) y br q (λ_ _ f=>by cases f;rfl)
  |o b=>
   obtain⟨B,j,y⟩:=m;obtain⟨x,q⟩:=K (av:=.ref k []) rfl;exact T b B (.inr ⟨(λ_ _ f=>by cases f),λM L P t r=>by rw[x,j,<-r];exact .ref (loc:=bq) t HZ⟩) (.inl j) y br q (λ_ _ f=>by cases f)
  |w d0 ds O V fz=>
   obtain⟨i,o,an,j,⟨fs,el,em⟩,y⟩:=m;obtain⟨x,q⟩:=K (av:=.view k [] O V) rfl;refine T ⟨.osl d0,ds⟩ _ (.inr ⟨(λ_ _ f=>by cases f),λM L P t r=>?_⟩) (.inr λ_ _ f=>by cases f) y br q (λ_ _ f=>by cases f);have r:L k=_:=r;have bx:aJ (az A z) w M L P (.view k [] O V) (.slice (bn ⟨i,if an=O then o else o+O*d0.size,bq⟩) (V-O) (an-O)):=.view (loc:=bq) (len:=ds.length) t (by rw[r];exact HZ) U el em;rw[a8 U] at bx;rw[x,j];exact bx
theorem Bi {a:dV} (g:a.flatten.Nodup):(∀(c:bo) b,a[c]?=bn b->b.Nodup)/\∀(c e:bo) b d,a[c]?=bn b->a[e]?=bn d->c≠e->∀f∈b,f∉d:=by
 induction a with
 |nil=>grind
 |cons i a h=>
  simp only[hA,gI] at g;grind [List.getElem?_cons_zero,Kr,Iq,IL]
def o4 (b:dY):cd->Sem Value
 |.tmp a=>Ih (b.getD a bL)
 |.cell c a=>do loadVar a (<-asAddr (b.getD c bL))
def Es {f:Func} {e:bp cd} (h:f.results=e.toArray) (c:dY) (a:bz) (i:(e.mapM (o4 c)).run s a=.ok Q a):(results f c).run s a=.ok (ih Q) a:=by
 unfold results;simp only[bP,h];rw[JI,Sem.run_map];have j:∀b:cd->Sem Value,(∀d,b d=o4 c d)->(e.mapM b).run s a=.ok Q a:=λb g=>(by rw[show b=o4 c from funext g];exact i);rw[j _ (λd=>by cases d<;>rfl)];simp only[bT,b9];congr 1
 match Q with
 |[]|[r]=>rfl
 |r::l::k=>simp[ih]
theorem ky.rep {K:a6} {e:dY} {E:aW} (k:aK K i e p E w x) (G:P.1.cK=bu) {d:cd} {H:ei} (a:ky s i P d H):∃o M,(o4 e d).run s p=.ok o p/\lB E p P o M/\(∃a4,(H.map x).flatten.Perm (M++a4))/\∀id∈H,∃P,ah i.h id=bn P:=by
 have a3:∀(id:bo) (f:aj) (l:bp ax),ah i.h id=bn f->aX f.1 f.2 l P.1 P.2->∃u m j n,ar p f.1 bq (w id) l P.1 u m/\al (az E K.B) p P.1 m P.2 j/\iV p u m P.1.size/\(x id).Perm (j++n):=(by intro id f l c q;obtain⟨v,z,aA⟩:=k.tree id _ c;obtain⟨u,m,j,n,C,D,I,J,_⟩:=kW l (τ':=P.1) (y:=P.2) v (loc:=bq) (λ_ _ a=>by cases a) z (λ_ _ a=>by cases a) (k.notM c) q;grind);cases d with
 |tmp d=>
  have b:=k.tmp d;simp only[ky] at a;split at a
  ·rename_i bx cv g;rw[g] at b;obtain⟨rfl,rfl⟩:=a;generalize A:e.getD d bL=o at b;cases b with|val bl=>
   exact⟨_,[],by show(Ih (e.getD d bL):Sem Value).run s p=_;simp_all,⟨_,br,bl.cK G⟩,⟨[],aa⟩,aa⟩
  ·rename_i o g;rw[g] at b;obtain⟨v,z,rfl⟩:=a;generalize A:e.getD d bL=cs at b;cases b;exact⟨_,[],by show(Ih (e.getD d bL):Sem Value).run s p=_;simp_all,⟨_,z.symm,i9 v⟩,⟨[],aa⟩,aa⟩
  ·rename_i id l g;rw[g] at b;obtain⟨rfl,f,c,q⟩:=a;generalize A:e.getD d bL=o at b;cases b with|ref t r=>
   rw[c] at t;cases t;obtain⟨ce,bs,V,an,am⟩:=q.get;obtain⟨v,z,aA⟩:=k.tree id _ c;obtain⟨u,m,j,n,C,D,I,J,_⟩:=kW l (τ':=ce) (y:=bs) v (loc:=bq) (λ_ _ a=>by cases a) z (λ_ _ a=>by cases a) (k.notM c) V;obtain⟨rfl,rfl,rfl⟩:=r.fM C;refine⟨_,j,by show(Ih (e.getD d bL):Sem Value).run s p=_;rw[A];rfl,⟨_,am _,(an _ _ _ _ D).cK G⟩,⟨n,by simpa using J⟩,λav L=>?_⟩;rw[hg.1 L];exact⟨f,c⟩
  grind
 |cell F N=>
  have b:=k.tmp F;simp only[ky] at a;obtain⟨ci,a⟩:=a;split at a
  ·rename_i id l g;rw[g] at b;obtain⟨rfl,f,bx,c,ap,q⟩:=a;generalize A:e.getD F bL=o at b;cases b with|ref t r=>
   rw[c] at t;cases t;have:=r.ty;rw[ap] at this;cases this;obtain⟨O,a0,S,rfl,Q,R⟩:=ie (k.tree id _ c).1 r;have ad:=r.append (ar.rP Q R);obtain⟨u,m,j,n,C,D,I,J⟩:=a3 id f _ c q;obtain⟨ak,T,U⟩:=ad.fM C;subst T;subst U;subst ak;have co:=(I O a0 br).1;refine⟨aN P.1 S,j,?_,⟨_,br,D.cK G⟩,⟨n,ab⟩,λav L=>?_⟩
   ·show(do loadVar N (<-asAddr (e.getD F bL)):Sem Value).run s p=_;grind [nW,bP,b9,bT,aN,List.headD,asAddr]
   grind
  grind
theorem lA.rep {k:bQ} {p:a6} {g:aq} {o:dY} {f w0:bz} {j:aW} {A:bo->ea} {l:bo->ei} (m:aK p g o f j A l):∀{d:bp cd} {n:bp aj} {a:ei},lA k g d n a->∃e c,(d.mapM (o4 o)).run k f=.ok e f/\fi (lB j f) n e c/\(∃x,(a.map l).flatten.Perm (c.flatten++x))/\∀id∈a,∃i,ah g.h id=bn i
 |[],[],a,b=>by obtain rfl:a=[]:=b;exact⟨[],[],br,trivial,⟨[],.refl _⟩,aa⟩
 |[],i::B,a,b|r::d,[],a,b=>b.elim
 |r::d,i::B,a,b=>by
  obtain⟨w,i1,L,rfl,u,v⟩:=b;obtain⟨C,t,D,q,⟨y,E⟩,F⟩:=u.rep m w;obtain⟨e,c,G,s,⟨z,H⟩,I⟩:=lA.rep (w0:=w0) m v;refine⟨C::e,t::c,?_,⟨q,s⟩,⟨y++z,?_⟩,λK J=>?_⟩
  ·simp_all
  ·grind
  grind
theorem tE:∀{k:bo} {args:bp aT},∀b∈e7 k args,k<=b
 |k,[],b,a=>by cases a
 |k,g::args,b,a=>by
  have e:=tE (k:=k+1) (args:=args);cases g with
  |mg h f r=>
   cases h with
   |true=>have:=e b a;omega
   |false=>
    rcases c2.1 a with rfl|a
    ·omega
    grind
  |w u q m j t=>
   rcases c2.1 a with rfl|a
   ·omega
   grind
  |v f|o f|c n p|n|s i l=>have:=e b a;omega
  |d _ _ _=>
   rcases c2.1 a with rfl|a
   ·omega
   grind
def gO:aT->bA
 |.mg bu _ _=>bu
 |_=>bw
def gN:bp aT->bA
 |.mg bu a _::as=>hn a.1&&(as.all gO&&gN as)
 |_::as=>gN as
 |[]=>bu
def gN.get:∀{as:bp aT} {f:bo} {d:aj} {e:d.1.den},gN as=bu->as[f]?=bn (.mg bu d e)->hn d.1=bu
 |[],_,_,_,_,c=>by simp at c
 |a::as,0,d,e,b,c=>by simp only[fe,aV] at c;subst c;simp only[gN,aC] at b;exact b.1
 |a::as,f+1,d,e,b,c=>by
  have h:gN as=bu:=by cases a<;>first|exact b|(rename_i g _ _;cases g<;>first|exact b|(simp only[gN,aC] at b;exact b.2.2))
  exact gN.get h (by simpa using c)
def s3:∀{as:bp aT} {c:ea} {b:bo} {a:aT} {f:Value},gN as=bu->as[b]?=bn a->gO a=bw->c[b]?=bn f->(gS as c)[b]?=bn f
 |[],_,_,_,_,_,g,_,_=>by simp at g
 |_::_,[],_,_,_,_,_,_,g=>by simp at g
 |a::as,i::c,b,l,f,e,d,h,j=>by
  have k:∀(_:gO a=bw) (_:gN as=bu),gS (a::as) (i::c)=i::gS as c->(gS (a::as) (i::c))[b]?=bn f:=λ_ o m=>by
   rw[m];cases b with
   |zero=>simpa using j
   |succ b=>simpa using s3 o (by simpa using d) h (by simpa using j)
  cases a with
  |mg n p q=>
   cases n with
   |false=>exact k br e br
   |true=>
    simp only[gN,aC] at e;cases b with
    |zero=>
     simp only[fe,aV] at d;subst d;cases h
    |succ b=>
     have:=cX.1 e.2.1 l (hK (by simpa using d));rw[h] at this;cases this
  |_=>exact k br e br
def xe:∀{as:bp aT} {vs:ea},(gS as vs).length<=as.length
 |[],_=>by simp[gS]
 |a::as,vs=>by
  cases vs with
  |nil=>cases a<;>first|(simp[gS];done)|(rename_i b _ _;cases b<;>simp[gS])
  |cons c vs=>
   have:=xe (as:=as) (vs:=vs);cases a<;>first|(simp only[gS,gU];omega)|(rename_i b _ _;cases b<;>simp only[gS,gU,ku]<;>omega)
def tB:∀{k:bo} {args:bp aT} {j a:bo} {b:bp ax} {c:bA},args[j]?=bn (.d a b c)->gt (cZ k args) (k+j)=bif c then .addr (dd a) b else .ref (dd a) b
 |k,[],j,a,b,c,e=>by simp at e
 |k,g::args,0,a,b,c,e=>by simp only[fe,aV] at e;subst e;show gt ((k,_)::_) _=_;rw[gz,bc U]
 |k,g::args,j+1,a,b,c,e=>by have f:=tB (k:=k+1) (args:=args) (j:=j) (by simpa using e);rw[(U:k+1+j=k+(j+1))] at f;have i:∀h:ag,gt ((k,h)::cZ (k+1) args) (k+(j+1))=bif c then .addr (dd a) b else .ref (dd a) b:=λh=>(by rw[gz,a8 U];exact f);cases g<;>first|exact i _|exact f|(rename_i l _ _;cases l;exact i _;exact f)
def xd:∀{as:bp aT} {vs:ea},as.any gO=bw->vs.length=as.length->gS as vs=vs
 |[],[],_,_=>rfl
 |[],_::_,_,b|_::_,[],_,b=>by cases b
 |a::as,d::vs,b,g=>by simp only[mY,Bool.or_eq_false_iff] at b;have c:=xd (as:=as) (vs:=vs) b.2 (by simpa using g);have f:=b.1;cases a<;>first|exact cp (d:: ·) c|(rename_i e _ _;cases e<;>first|exact cp (d:: ·) c|cases f)
def tF:∀{k:bo} {e:bp aT} {a:bo},a∈e7 k e->∃c,e[a-k]?=bn c/\gO c=bw/\k<=a
 |k,[],a,b=>by cases b
 |k,c::e,a,b=>by
  have h:a∈e7 (k+1) e->∃f,(c::e)[a-k]?=bn f/\gO f=bw/\k<=a:=λb=>(by obtain⟨f,j,l,o⟩:=tF b;exact⟨f,by rw[(U:a-k=(a-(k+1))+1)];simpa using j,l,U⟩);have g:gO c=bw->a=k\/a∈e7 (k+1) e->∃f,(c::e)[a-k]?=bn f/\gO f=bw/\k<=a:=λm b=>by
   rcases b with rfl|b
   ·exact⟨c,aa,m,eL _⟩
   exact h b
  cases c with
  |mg i t v=>cases i with
   |false=>exact g br (c2.1 b)
   |true=>exact h b
  |w y u q p x|d r s n=>exact g br (c2.1 b)
  |_=>exact h b
def lS:aT->bA
 |.mg a b _=>!a&&e8 b.1
 |.w c _ _ _ _=>e8 (.osl c)
 |_=>bu
def tG {k:aW} {j:bo->Prop} {w:bz} {o:bo->bo×bo}:∀{c:bp aT} {i:ea} {f:dV},c.all lS=bu->fi (iQ k j w) c i f->fi (iQ ⟨k.p,o⟩ j w) c i f
 |[],[],[],_,b=>b
 |[],[],_::_,_,b|[],_::_,_,_,b|_::_,[],_,_,b|_::_,_::_,[],_,b=>b.elim
 |a::c,y::i,q::f,d,b=>by
  simp only[fX,aC] at d;refine⟨?_,tG d.2 b.2⟩;have g:=b.1;cases a with
  |mg q x A=>
   obtain⟨n,e,h⟩:=g;have:=d.1;simp only[lS,aC] at this;exact⟨n,e,al.eS this.2 h⟩
  |w t z v u B=>
   obtain⟨l,s,m,e,r,h⟩:=g;exact⟨l,s,m,e,r,al.eS (τ:=.osl t) d.1 h⟩
  |_=>exact g
def xj {d:aW} {g:bz} {i:bo->bo×bo}:∀{b:bp aj} {f:ea} {e:dV},(b.all λt=>e8 t.1)=bu->fi (lB d g) b f e->fi (lB ⟨d.p,i⟩ g) b f e
 |[],[],[],_,a=>a
 |[],[],_::_,_,a|[],_::_,_,_,a|_::_,[],_,_,a|_::_,_::_,[],_,a=>a.elim
 |t::b,n::o,l::m,c,a=>by simp only[fX,aC] at c;obtain⟨h,j,k⟩:=a.1;exact⟨⟨h,j,al.eS c.1 k⟩,xj c.2 a.2⟩
theorem ga.rep {bl:a6} {E:aq} {S:dY} {w w0:bz} {u T:aW} {R:bo->ea} {x:bo->ei} (H:aK bl E S w u R x) {B a4:bo->Prop}:∀{k:bo} {b:bp aT} {F:ea} {K:dV},(b.any gO=bu->u.t=T.t)->ga E k b->fi (jx T a4 w0) b F K->(∀a,a∈e7 k b->∀v,F[a-k]?=bn v->S.getD a bL=v)->(∀a∈e7 k b,k<=a)->∃g,fi (iQ u B w) b F g/\g.flatten=((fC k b).map x).flatten/\∀id∈fC k b,∃r,ah E.h id=bn r
 |k,[],[],K,_,f,l,D,_=>⟨[],trivial,br,by simp[fC]⟩
 |k,[],_::_,K,_,f,l,D,_|k,j::b,[],K,_,f,l,D,_|k,j::b,v::F,[],_,f,l,D,_=>l.elim
 |k,j::b,v::F,O::K,ce,f,l,D,fn=>by
  have ci:∀a∈e7 (k+1) b,k+1<=a:=λa e=>tE a e;have Q:ga E (k+1) b->(∀a,a∈e7 (k+1) b->a∈e7 k (j::b))->∃g,fi (iQ u B w) b F g/\g.flatten=((fC (k+1) b).map x).flatten/\∀id∈fC (k+1) b,∃r,ah E.h id=bn r:=λf av=>
   ga.rep H (λq=>ce (by simp only[mY,q,Bool.or_true])) f l.2 (λa e d7 d0=>D a (av a e) d7 (by
    have:=ci a e;rw[(U:a-k=(a-(k+1))+1)];simpa using d0)) ci
  have J:ga E (k+1) b->(∀a,a∈e7 (k+1) b->a∈e7 k (j::b))->fC k (j::b)=fC (k+1) b->iQ u B w j v []->∃g,fi (iQ u B w) (j::b) (v::F) g/\g.flatten=((fC k (j::b)).map x).flatten/\∀id∈fC k (j::b),∃r,ah E.h id=bn r:=λf av q m=>(by obtain⟨g,y,z,A⟩:=Q f av;exact⟨[]::g,⟨m,y⟩,by rw[q];simpa using z,by rw[q];exact A⟩);cases j with
  |v r=>exact J f (λa e=>e) rfl rfl
  |o r=>exact J f (λa e=>e) rfl rfl
  |n=>exact J f (λa e=>e) rfl rfl
  |s O ft=>exact J f (λa e=>e) rfl rfl
  |d _ _ _=>exact J f.2 (λa e=>eJ _ e) rfl rfl
  |c n f2=>exact J f (λa e=>e) rfl rfl
  |mg P r a3=>
   cases P with
   |true=>
    obtain⟨⟨I,p,N⟩,f⟩:=f;obtain⟨g,y,z,A⟩:=Q f (λa e=>e);obtain⟨m,_⟩:=H.tree _ _ I;obtain⟨eq,M,ap⟩:=l.1;refine⟨x (dd k)::g,⟨?_,y⟩,by simp[fC,z],λid i=>?_⟩
    ·refine⟨R (dd k),?_,m.cK p⟩;have q:∀{G:af} {cv a3:G.den} {c d:ea} {V ad:aZ} {w cs:bz} {O P:ei},hn G=bu->V.t=ad.t->al V w G c cv O->al ad cs G d a3 P->c=d:=λ{G} {cv a3 c d V ad w cs O P} co ds d5 d6=>by
      cases G with
      |opt a f3=>
       obtain⟨el,o,_,_,rfl,_,_,_,_,_,d3⟩:=d5;obtain⟨am,a0,_,_,rfl,_,_,_,_,_,d4⟩:=d6;have e:a≠0:=λq=>(by subst q;cases co);have:=(d3 e).trans ((congrFun ds a).trans (d4 e).symm);simp only[eT] at this;obtain⟨rfl,rfl⟩:=this;rfl
      |_=>cases co
     rw[M,q N (show(az T a4).t=(az u bl.B).t from(ce br).symm) ap m]
    rcases c2.1 i with rfl|i
    ·exact⟨_,I⟩
    exact A id i
   |false=>
    obtain⟨⟨I,p,N,d1⟩,f⟩:=f;obtain⟨g,y,z,A⟩:=Q f (λa e=>eJ _ e);have C:=H.tmp k;rw[I] at C;have M:S.getD k bL=v:=D k (by simp[e7]) v aa;rw[M] at C;obtain⟨m,_⟩:=H.tree k _ p;refine⟨x k::g,⟨?_,y⟩,by simp[fC,z],λid i=>?_⟩
    ·cases C with|ref L an=>
     rw[p] at L;cases L;obtain⟨rfl,rfl,rfl⟩:=cb.1 an;exact⟨R k,br,m.cK N⟩
    rcases c2.1 i with rfl|i
    ·exact⟨_,p⟩
    exact A id i
  |w d8 f4 fx fp f5=>
   obtain⟨⟨I,p,⟨N,d1⟩,fs⟩,f⟩:=f;obtain⟨g,y,z,A⟩:=Q f (λa e=>eJ _ e);have C:=H.tmp k;rw[I] at C;have M:S.getD k bL=v:=D k (by simp[e7]) v aa;rw[M] at C;obtain⟨m,_⟩:=H.tree k _ p;refine⟨x k::g,⟨?_,y⟩,by simp[fC,z],λid i=>?_⟩
   ·cases C with
    |fV=>omega
    |view L an fT f0 aA=>
    rename_i f1 f6 fz am a0 d2 bs;rw[p] at L;cases L;obtain⟨ak,ex,dl⟩:=cb.1 an;simp only[af.osl.injEq] at ak;subst ak;have bx:R k=[.slice (bn ⟨am,a0,bq⟩) d2 bs]:=dl;have ap:=m;obtain⟨d9,em,aH,cP⟩:=ap;rw[aH] at bx;simp only[eQ,cg,b2] at bx;refine⟨am,a0,bs,by rw[a8 U],U,?_⟩;have:=al.cK (τ:=.osl d8) (B':=B) N m;grind
   rcases c2.1 i with rfl|i
   ·exact⟨_,p⟩
   exact A id i
def ga.d {n:aq}:∀{f:bp aT} {b c h:bo} {i:bp ax} {j:bA},ga n b f->f[c]?=bn (.d h i j)->gt n.g (b+c)=(bif j then .addr (dd h) i else .ref (dd h) i)/\b+c∈e7 b f
 |[],_,c,_,_,_,_,e=>by simp at e
 |a::f,b,0,h,i,j,e,l=>by simp only[fe,aV] at l;subst l;exact⟨e.1,by simp[e7]⟩
 |a::f,b,c+1,h,i,j,e,l=>by
  have q:f[c]?=bn (.d h i j):=(by simpa using l);have o:ga n (b+1) f:=by
   cases a with
   |mg m s u=>cases m<;>exact e.2
   |w x t r p v|d _ _ _=>exact e.2
   |_=>exact e
  obtain⟨ak,k⟩:=o.d q;refine⟨by rw[(U:b+(c+1)=b+1+c)];exact ak,?_⟩;rw[(U:b+(c+1)=b+1+c)];cases a with
  |mg m s u=>cases m with
   |false=>exact eJ _ k
   |true=>exact k
  |w x t r p v|d _ _ _=>exact eJ _ k
  |_=>exact k
def ga.g {l:aq}:∀{i:bp aT} {f e:bo} {c:aj} {j:c.1.den},ga l f i->i[e]?=bn (.mg bu c j)->ah l.h (dd (f+e))=bn ⟨c.1,j⟩/\hn c.1=bu
 |[],_,e,_,_,_,b=>by simp at b
 |a::i,f,0,c,j,b,k=>by simp only[fe,aV] at k;subst k;exact⟨b.1.1,b.1.2.2⟩
 |a::i,f,e+1,c,j,b,k=>by
  have o:i[e]?=bn (.mg bu c j):=(by simpa using k);have n:ga l (f+1) i:=by
   cases a with
   |mg m c j=>cases m<;>exact b.2
   |w t r q p s|d _ _ _=>exact b.2
   |_=>exact b
  rw[(U:f+(e+1)=f+1+e)];exact n.g o
def al.named {a:aZ} {s:j.den} (i:hn j=bu) (o:al a p j Q s h):∃k,Q=[.pointer (bn ⟨(a.t k).1,(a.t k).2,bq⟩)]/\∀{b:aZ} {m:bz} {c:ea} {n:j.den} {g:ei},al b m j c n g->b.t=a.t->c=Q:=by
 cases j with
 |opt f y=>
  obtain⟨u,w,_,_,rfl,_,_,_,_,_,l⟩:=o;have e:f≠0:=λd=>(by subst d;cases i);refine⟨f,by rw[<-l e],λ{b m c n g} q d=>?_⟩;obtain⟨v,x,_,_,rfl,_,_,_,_,_,r⟩:=q;have:=(l e).trans ((congrFun d f).symm.trans (r e).symm);simp only[eT] at this;obtain⟨rfl,rfl⟩:=this;rfl
 |_=>cases i
def tC {l:aW} {k:bo->Prop} {m:bz}:∀{e:bp aT} {h:ea} {i:dV} {j:bo} {d:aT},fi (jx l k m) e h i->e[j]?=bn d->∃c f,h[j]?=bn c/\jx l k m d c f
 |[],_,_,_,_,_,a=>by simp at a
 |_::_,[],_,_,_,a,_|_::_,_::_,[],_,_,a,_=>a.elim
 |b::e,c::h,f::i,0,d,a,g=>by simp only[fe,aV] at g;subst g;exact⟨c,f,br,a.1⟩
 |b::e,c::h,f::i,j+1,d,a,g=>by obtain⟨q,n,o,p⟩:=tC a.2 (by simpa using g);exact⟨q,n,by simpa using o,p⟩
theorem jz.Bl {H:FuncId} {x:Func} {c:b7} {ic:bp cd} {an:bp aj} (mp:E.P.funcs[H]?=bn x) (j:x.body=bn c) (on:x.results=ic.toArray) (co:V.length<=x.ntmps) (d2:gN V=bu) (d7:((ha 0 V).isNone||!(V.any gO))=bu) (up:V.length<=400000) (y:bA) (C:(y||(V.all lS&&an.all λf=>e8 f.1))=bu) (q:∀i:a6,i.n=x.ntmps->i.fx=y->i.pin=e7 0 V++hb (ha 0 V)->(∀a,i.I0 a\/i.B a->a<i.w0.heap.size/\¬i.F0 a)->lC i (ha 0 V)->gu E i.I0 i.w0->J E i c ⟨cZ 0 V,eY 0 V⟩ (tj E.P V ic an)):jz E H V an:=by
 intro ap u a0 w ft f4 ce nu f0 f8 nd f2;obtain⟨ge,ut⟩:=pu ce;obtain⟨el,fp,a3,i8,t3,jp⟩:=tD (k:=0) U ce;generalize cv:gS V w=F;have u8:F.length<=V.length:=by rw[<-cv];exact xe
 let i:a6:={I0:=u,B:=a0,F0:=λa=>a∈ft.flatten,w0:=ap,n:=x.ntmps,pin:=e7 0 V++hb (ha 0 V),vs:=λb=>w.getD b bL,fx:=y}
 have gc:∀b,(F.toArray++H9 (x.ntmps-F.toArray.size) bL).getD b bL=F.getD b undef:=(by intro b;rw[JS,n8];grind);obtain⟨v3,rd⟩:=Bi nu;have le:aK i ⟨cZ 0 V,eY 0 V⟩ (F.toArray++H9 (x.ntmps-F.toArray.size) bL) ap u el fp:=by
  refine{n:=?_,i0:=λ_ q=>q,it:=λ_=>rfl,i1:=λ_ q=>.inl q,ib:=f4,tree:=?_,dis:=?_,tmp:=?_,frame:=λ_ _ _=>rfl,evo:=λ_ _=>.refl _ _,size:=eL _,os:=rfl,tape:=rfl,output:=rfl,pin:=λb ci=>?_}
  ·grind
  ·intro id f O;obtain⟨r,_,_,_,⟨H,ds,d9⟩,aA⟩:=a3 id f O;grind [Iq,IL]
  ·intro pm r f L ne K no;obtain⟨pr,t4,rg,rs,⟨H,rt,st⟩,_⟩:=a3 pm f ne;obtain⟨ps,t5,ds,d9,⟨ad,aA,aH⟩,_⟩:=a3 r L K;rw[st,aH];refine rd pr ps H ad rt aA (λz=>no ?_);subst z;rw[rg] at ds;rw[rs,d9,c6 ds]
  ·intro b;show aJ _ _ _ _ _ (gt (cZ 0 V) b) _;rw[gc];have fT:∀l m,w[b]?=bn l->V[b]?=bn m->gO m=bw->F.getD b bL=l:=λl m o A bs=>by
    have:=s3 d2 A bs o;rw[cv] at this;rw[n8,this];rfl
   rcases i8 b with q|⟨m,o,A⟩|⟨l,o,A,bs⟩
   ·rw[hL] at q;rw[q];exact .dead _
   ·cases m with
    |d Q R c=>
     obtain⟨f,av,l,G,a4,t2,v0,kg,L,d1,T,ex⟩:=f2 b Q R c o;have D:=tB (k:=0) o;obtain⟨ak,fn⟩:=jp Q f av l G a4;rw[hL] at D ak fn;rw[D,fT L _ T o br];have or:=gN.get d2 G;obtain⟨_,_,_,_,_,d5⟩:=a3 _ _ ak;have d6:el (dd Q)=[l]:=(by rw[fn];exact al.tb or d5);rw[<-d6] at d1;cases c with
     |false=>rw[show L=aN t2 kg from ex];exact .ref ak d1
     |true=>
      obtain⟨a,hp,rfl,rfl⟩:=ex;exact .addr ak d1
    |_=>cases A
   rw[hL] at bs;obtain⟨m,bx⟩:∃m,V[b]?=some m:=by
    have:=(e5.1 o).1;exact⟨V[b]'(by omega),fq _⟩
   rw[fT l m o bx (by
    cases m with
    |mg ad f av=>cases ad with
     |false=>rfl
     |true=>exact absurd bx (A f av)
    |_=>rfl)]
   exact bs
  rw[gc b];show F.getD b bL=w.getD b bL;cases D:V.any gO with
  |false=>rw[<-cv,xd D ge]
  |true=>
   rw[D,JR,JT] at d7;have s:ha 0 V=bq:=by
    cases s:ha 0 V with
    |none=>rfl
    |some R=>rw[s] at d7;cases d7
   have ci:b∈e7 0 V++hb (ha 0 V):=ci;rw[s] at ci;obtain⟨m,o,A,_⟩:=tF (k:=0) (by simpa[hb] using ci);rw[Ks] at o;have f6:b<w.length:=(by rw[ge];exact(e5.1 o).1);have:=s3 d2 o A (fq f6);rw[cv] at this;rw[n8,this,n8,fq f6]
 have op:lC i (ha 0 V):=by
  cases s:ha 0 V with
  |none=>trivial
  |some R=>
   obtain⟨b,H,gl⟩:=R;rw[s] at f8;obtain⟨_,_,a,hp,t0,S,em,io,tt,ty⟩:=f8;have f7:i.pin=e7 0 V++hb (bn (b,H,gl)):=ab;refine⟨by grind [hb],λr K=>by grind [hb],a,hp,t0,S,em,io,tt,ty⟩
 refine calls_of_wp mp j (wp_mono (q i br rfl rfl (λa j=>⟨f4 a j,λN=>j.elim (f0 a N).1 (f0 a N).2.1⟩) op nd _ ap ⟨u,el,fp,le⟩ rfl) ?_);rintro z d0 M ⟨is,⟨mo,gf,d5,d4,N⟩,⟨v,tf,fs,e⟩,f1⟩;obtain⟨to,s,ts,S,⟨v4,em⟩,io⟩:=lA.rep (w0:=ap) e d5;obtain⟨I,bl,fz,t9⟩:=ga.rep e (B:=a0) (λf3=>by
  cases y with
  |true=>exact e.it br
  |false=>
   simp only[Js,aC,cX,iu] at C f3;obtain⟨m,bx,D⟩:=f3;have:=C.1 m bx;cases m<;>first|(cases D;done)|(rename_i ad _ _;cases ad<;>first|(cases D;done)|cases this)) N ce (λr K l pl=>by
  rw[Ks] at pl;rw[e.pin r (kv _ K)];grind) (λr _=>Jt r)
 have ul:∀a,(⟨v.p,u.t⟩:aW) a↔v a:=λ_=>Ir;have bl:fi (iQ ⟨v.p,u.t⟩ a0 M) V w I:=by
  cases y with
  |true=>
   have z:v.t=u.t:=e.it br;rw[<-z];exact bl
  |false=>simp only[Js,aC] at C;exact tG C.1 bl
 have S:fi (lB ⟨v.p,u.t⟩ M) an to s:=by
  cases y with
  |true=>
   have z:v.t=u.t:=e.it br;rw[<-z];exact S
  |false=>simp only[Js,aC] at C;exact xj C.2 S
 have d4:=fA.ok d4;have f9:∀id∈fC 0 V++gf,∃f,ah is.h id=bn f:=λid f5=>ab;have cs:=sJ e f9 d4;rw[Ji,n7,<-fz] at cs;have cs:(I.flatten++s.flatten).Nodup:=(by have:=(List.Perm.append_left I.flatten em).nodup_iff.1 cs;grind);have lk:∀a∈I.flatten++s.flatten,∃id f,ah is.h id=bn f/\a∈fs id:=λa j=>(by have j:a∈((fC 0 V++gf).map fs).flatten:=(by rw[Ji,n7,<-fz];grind);obtain⟨gl,o,A⟩:=gV.1 j;obtain⟨id,f5,rfl⟩:=c9.1 o;obtain⟨f,O⟩:=f9 id f5;grind);have mc:kn M V w:=by
  intro r Q R c K;obtain⟨f,av,l,G,a4,wf,v1,t6,L,_,T,_⟩:=f2 r Q R c K;have mt:y=bu:=by
   cases y with
   |true=>rfl
   |false=>
    simp only[Js,aC,cX] at C;have:=C.1 _ (hK G);cases this
  subst mt;have z:v.t=u.t:=e.it br;obtain⟨go,gs⟩:=N.d K;obtain⟨dl,d8⟩:=N.g G;rw[hL] at go gs dl;have f7:d0.tmps.getD r bL=L:=(by rw[e.pin r (kv _ gs)];show w.getD r bL=L;rw[n8,T];rfl);have d3:=e.tmp r;rw[f7,go] at d3;obtain⟨v6,t8,i3,t7,t1,of⟩:=tC ce G;rw[a4] at i3;cases i3;obtain⟨ol,_⟩:=e.tree _ _ dl;obtain⟨vm,eq,kd⟩:=al.named d8 of;have d6:tf (dd Q)=[l]:=by
   rw[kd ol z,eq,t1,eq];obtain⟨gh,i2,lb⟩:∃gh i2,f.1=.opt gh i2:=by cases O:f.1<;>rw[O] at d8<;>first|exact⟨_,_,br⟩|cases d8
   rw[lb];rfl
  refine⟨f,av,l,G,a4,?_⟩;rw[<-d6];cases c with
  |false=>
   cases d3 with|ref am co=>
   rw[dl] at am;cases am;exact⟨_,_,_,_,co,T,br⟩
  |true=>
   cases d3 with|addr am co=>
   rw[dl] at am;cases am;exact⟨_,_,_,_,co,T,_,_,br,br⟩
 have hs:∃l,(results x d0.tmps).run E.P M=.ok l M/\∃v I s ii,Ending.returned l=.returned (ih ii)/\tl u a0 ap ft V w an v I s ii M:=
  ⟨_,Es on d0.tmps M ts,⟨v.p,u.t⟩,I,s,_,br,mc,bl,S,cs,(λa j=>by
   obtain⟨id,f,O,lt⟩:=lk a j;obtain⟨ds,d9,aA,aH⟩:=(e.tree id f O).2.2 a lt;grind),e.i0,(λa j=>by
   rcases e.i1 a j with q|q|q
   ·grind
   ·exact .inr ⟨e.ib a (.inl j),.inl q⟩
   exact .inr ⟨e.ib a (.inl j),.inr q⟩),e.size,e.os,e.tape,e.output,e.evo,λa j l2=>e.frame a j l2,br⟩
 rcases mo with rfl|rfl
 ·exact⟨f1,hs⟩
 exact⟨f1,hs⟩
end
end
section
open Classical in
def pick {a:Type} (c:a->Prop):bv a:=if h:∃b,c b then bn h.choose else bq
theorem Co {d:a->Prop} {c:a} (b:pick d=bn c):d c:=by
 unfold pick at b;split at b
 ·grind
 grind
inductive iA where
 |v (τ:af)
 |s (a:ag)
 |p (id:bo) (a b:bp ax)
 |w (id:bo)
structure hM where
 g:bp (bo×iA)
 h:bp (bo×af)
@[reducible] def jt:bp (bo×iA)->Type->Type
 |[],r=>r
 |(_,.v a)::l,r=>a.den×jt l r
 |(_,.s _)::l,r=>jt l r
 |(_,.p _ _ _)::l,r=>bo×jt l r
 |(_,.w _)::l,r=>dS×jt l r
@[reducible] def mF:bp (bo×af)->Type
 |[]=>bS
 |(_,a)::l=>a.den×mF l
@[reducible] def hM.den (a:hM):Type:=jt a.g (mF a.h)
def h2 {e:Type}:(c:bp (bo×iA))->jt c e->bp (bo×ag)
 |[],_=>[]
 |(d,.v f)::c,s=>(d,.val f s.1)::h2 c s.2
 |(d,.s a)::c,s=>(d,a)::h2 c s
 |(d,.p id a b)::c,s=>(d,.ref id (a++.idx s.1::b))::h2 c s.2
 |(d,.w id)::c,s=>(d,.view id [] s.1.1 s.1.2)::h2 c s.2
def lZ {b:Type}:(a:bp (bo×iA))->jt a b->b
 |[],s=>s
 |(_,.v _)::a,s=>lZ a s.2
 |(_,.s _)::a,s=>lZ a s
 |(_,.p _ _ _)::a,s|(_,.w _)::a,s=>lZ a s.2
def lX:(a:bp (bo×af))->mF a->bp (bo×aj)
 |[],_=>[]
 |(d,b)::a,s=>(d,⟨b,s.1⟩)::lX a s.2
def gy (a:hM) (b:a.den):aq:=⟨h2 a.g b,lX a.h (lZ a.g b)⟩
def eV {τ:af} (a:af) (b:τ.den):bv a.den:=if e:τ=a then bn (e▸b) else bq
theorem fL {a:z.den} {b:j.den} (c:eV j a=bn b):(⟨z,a⟩:aj)=⟨j,b⟩:=by grind [eV]
def lI:bp ag->bp ag->bA
 |[],[]=>bu
 |a::c,b::d=>gZ a b&&lI c d
 |_,_=>bw
theorem lI.ok:∀{c d:bp ag},lI c d=bu->c=d
 |[],[],_=>rfl
 |[],_::_,b|_::_,[],b=>by cases b
 |a::c,e::d,b=>by simp only[lI,aC] at b;rw[gZ.ok b.1,lI.ok b.2]
def kI:ag->ag->bA
 |.aR c e,.aR d f=>bB c d&&lI e f
 |.c0 a,.c0 b|a,b=>gZ a b
theorem kI.ok {a b:ag} (c:kI a b=bu):a=b:=by cases a<;>cases b<;>first|exact gZ.ok c|(simp only[kI,aC] at c;grind [et,lI.ok,gZ.ok])
def o9:bp ax->bp ax->bp ax->eb
 |[],a,.idx k::b=>bif g8 a b then bn k else bq
 |s::c,a,d::b=>bif mI s d then o9 c a b else bq
 |_,_,_=>bq
theorem xD:∀{d b e:bp ax} {c:bo},o9 d b e=bn c->e=d++.idx c::b
 |[],b,[],c,a=>by cases a
 |[],b,s::e,c,a=>by
  cases s<;>simp only[o9] at a<;>try (cases a;done)
  grind [g8.ok]
 |s::d,b,[],c,a=>by cases a
 |s::d,b,g::e,c,a=>by
  simp only[o9] at a;cases f:mI s g with
  |false=>grind
  |true=>rw[f] at a;rw[mI.ok f,xD a];rfl
def jo {f:Type} (e:bp (bo×ag)) (g:bv f):(c:bp (bo×iA))->bv (jt c f)
 |[]=>g
 |(d,.v o)::c=>match gt e d with
  |.val _ m=>match eV o m with
   |some n=>(jo e g c).map (λi=>(n,i))
   |none=>bq
  |_=>bq
 |(d,.s a)::c=>match kI a (gt e d) with
  |true=>jo e g c
  |false=>bq
 |(d,.p id a b)::c=>match gt e d with
  |.ref h i=>bif bB id h then match o9 a b i with
   |some k=>(jo e g c).map (λf=>(k,f))
   |none=>bq else bq
  |_=>bq
 |(d,.w id)::c=>match gt e d with
  |.view h [] l j=>bif bB id h then(jo e g c).map (λf=>((l,j),f)) else bq
  |_=>bq
def qo (b:bp (bo×aj)):(a:bp (bo×af))->bv (mF a)
 |[]=>bn ()
 |(d,g)::a=>match ah b d with
  |some e=>match eV g e.2 with
   |some f=>(qo b a).map (λc=>(f,c))
   |none=>bq
  |none=>bq
def nw:bp (bo×af)->bo->bA
 |[],_=>bw
 |(k,_)::r,n=>bif bB k n then bu else nw r n
def ju:bp (bo×iA)->bp (bo×af)->bA
 |[],_=>bu
 |(_,.v _)::l,h=>ju l h
 |(_,.s a)::l,h=>(a.ids.all λid=>nw h id)&&ju l h
 |(_,.p id _ _)::l,h|(_,.w id)::l,h=>nw h id&&ju l h
def proj (a:hM) (b:aq):bv a.den:=bif ju a.g a.h then jo b.g (qo b.h a.h) a.g else bq
theorem pL:∀{b:bp (bo×af)} {c:mF b} {id:bo},nw b id=bu->(ah (lX b c) id).isSome=bu
 |[],_,_,a=>by cases a
 |(k,e)::b,c,id,a=>by
  simp only[nw] at a;simp only[lX,ah];cases d:bB k id with
  |true=>rfl
  |false=>rw[d] at a;exact pL ab
theorem oY {o:Type} {q:aq} {n:bv o}:∀{e:bp (bo×iA)} {f:jt e o},jo q.g n e=bn f->iE (h2 e f) q/\n=bn (lZ e f)
 |[],f,c=>⟨trivial,c⟩
 |(d,.v F)::e,f,c=>by
  simp only[jo] at c;split at c
  case h_2=>cases c
  rename_i G D t;split at c
  case h_2=>cases c
  rename_i E u;obtain⟨x,k,rfl⟩:=cF.1 c;obtain⟨h,i⟩:=oY k;refine⟨⟨?_,h⟩,i⟩;rw[t];cases fL u;rfl
 |(d,.s a)::e,f,c=>by
  simp only[jo] at c;split at c
  case h_2=>cases c
  rename_i r;obtain⟨h,i⟩:=oY c;exact⟨⟨(kI.ok r).symm,h⟩,i⟩
 |(d,.p id a b)::e,f,c=>by
  simp only[jo] at c;split at c
  case h_2=>cases c
  rename_i m x k;cases j:bB id m with
  |false=>grind
  |true=>
  rw[j] at c;simp only[bK] at c;split at c
  case h_2=>cases c
  rename_i B A;obtain⟨y,l,rfl⟩:=cF.1 c;obtain⟨h,i⟩:=oY l;refine⟨⟨?_,h⟩,i⟩;grind [xD,et]
 |(d,.w id)::e,f,c=>by
  simp only[jo] at c;split at c
  case h_2=>cases c
  rename_i m C z k;cases j:bB id m with
  |false=>grind
  |true=>
  rw[j] at c;simp only[bK] at c;obtain⟨y,l,rfl⟩:=cF.1 c;obtain⟨h,i⟩:=oY l;refine⟨⟨?_,h⟩,i⟩;simp_all
theorem w1 {e:aq}:∀{b:bp (bo×af)} {c:mF b},qo e.h b=bn c->iF (lX b c) e
 |[],c,a=>trivial
 |(d,m)::b,c,a=>by
  simp only[qo] at a;split at a
  case h_2=>cases a
  rename_i k g;split at a
  case h_2=>cases a
  rename_i l i;obtain⟨j,f,rfl⟩:=cF.1 a;refine⟨?_,w1 f⟩;grind [fL]
theorem o8 {r:Type} {c:bp (bo×af)} {t:mF c}:∀{l:bp (bo×iA)} {s:jt l r},ju l c=bu->hl (h2 l s) (lX c t)=bu
 |[],s,h=>rfl
 |(d,.v e)::l,s,h=>by have:=o8 (r:=r) (t:=t) (l:=l) (s:=s.2) h;simp only[hl,h2,fX,bM,JV,JW] at this|-;omega
 |(d,.s a)::l,s,h=>by simp only[ju,aC] at h;have:=o8 (r:=r) (t:=t) (l:=l) (s:=s) h.2;simp only[hl,h2,fX,aC] at this|-;grind [pL,Ie]
 |(_,.p id a b)::l,s,h=>by simp only[ju,aC] at h;have:=o8 (r:=r) (t:=t) (l:=l) (s:=s.2) h.2;simp only[hl,h2,fX,aC] at this|-;refine⟨?_,this⟩;simp_all [pL,fX,JV,JX,bM]
 |(_,.w id)::l,s,h=>by simp only[ju,aC] at h;have:=o8 (r:=r) (t:=t) (l:=l) (s:=s.2) h.2;simp only[hl,h2,fX,aC] at this|-;refine⟨?_,this⟩;simp_all [pL,fX,JV,JX,bM]
theorem lh {a:hM} {b:a.den} (c:proj a i=bn b):iE (gy a b).g i/\iF (gy a b).h i/\hl (gy a b).g (gy a b).h=bu:=by
 unfold proj at c;cases d:ju a.g a.h with
 |false=>grind
 |true=>
  rw[d] at c;obtain⟨e,f⟩:=oY c;exact⟨e,w1 f,o8 d⟩
inductive cN where
 |v (τ:af)
 |mg (g:bA) (τ:af)
 |o (τ:af)
 |c (f:bo) (τs:bp af)
 |n
 |s (f:bo) (l:ei)
 |w (σ:af)
 |d (k:bo) (q:bp ax) (a:bA)
@[reducible] def gm:bp af->Type
 |[]=>bS
 |τ::a=>τ.den×gm a
@[reducible] def c8:bp cN->Type
 |[]=>bS
 |.c _ f::a=>gm f×c8 a
 |.n::a|.s _ _::a=>bS×c8 a
 |.v b::a|.mg _ b::a=>b.den×c8 a
 |.d _ _ _::a=>bS×c8 a
 |.o b::a=>b.den×c8 a
 |.w e::a=>(bp e.den×bo×bo)×c8 a
@[reducible] def eW:bp cN->Type->Type
 |[],a=>a
 |.mg _ f::b,a=>f.den×eW b a
 |.d _ _ _::b,a=>eW b a
 |.w e::b,a=>bp e.den×eW b a
 |.v _::b,a|.o _::b,a|.c _ _::b,a|.n::b,a|.s _ _::b,a=>eW b a
structure eM where
 f:bo
 ps:bp cN
 rs:bp af
 sem:c8 ps->bv (eW ps (gm rs))
def eO:(c:bp af)->gm c->bp aj
 |[],_=>[]
 |τ::b,a=>⟨τ,a.1⟩::eO b a.2
def bd {p:Type}:(h:bp cN)->c8 h->eW h p->bp aT
 |[],_,_=>[]
 |.v f::e,a,b=>.v ⟨f,a.1⟩::bd e a.2 b
 |.mg k f::e,a,b=>.mg k ⟨f,a.1⟩ b.1::bd e a.2 b.2
 |.d l g i::e,a,b=>.d l g i::bd e a.2 b
 |.o f::e,a,b=>.o ⟨f,a.1⟩::bd e a.2 b
 |.c m r::e,a,b=>.c m (eO r a.1)::bd e a.2 b
 |.n::e,a,b=>.n::bd e a.2 b
 |.w q::e,a,b=>.w q a.1.1 a.1.2.1 a.1.2.2 b.1::bd e a.2 b.2
 |.s j g::e,a,b=>.s j g::bd e a.2 b
def eI {e:Type}:(f:bp cN)->eW f e->e
 |[],a=>a
 |.mg _ _::b,a=>eI b a.2
 |.d _ _ _::b,a=>eI b a
 |.w _::b,a=>eI b a.2
 |.v _::b,a|.o _::b,a|.c _ _::b,a|.n::b,a|.s _ _::b,a=>eI b a
def e1:bo->bp cN->bv dJ
 |_,[]=>bq
 |k,.s a b::_=>bn (k,a,b)
 |k,_::c=>e1 (k+1) c
theorem mD {r:Type}:∀{k:bo} {ps:bp cN} {a:c8 ps} {b:eW ps r},ha k (bd ps a b)=e1 k ps
 |k,[],a,b=>rfl
 |k,e::d,a,b=>by have c:=λa b=>mD (r:=r) (k:=k+1) (ps:=d) (a:=a) (b:=b);cases e<;>first|exact c _ _|rfl
def aO (E:cG) (a:eM):Prop:=
 (∀(d:dY) (e:bz),(H0 a.f d).run E.P e=.ok (.enter a.f d) e)/\∀c b,a.sem c=bn b->jz E a.f (bd a.ps c b) (eO a.rs (eI a.ps b))
def da:(k:af)->k.den->bp ax->(a:af)->bv a.den
 |_,c,[],a=>eV a c
 |.osl d,j,.idx h::b,a=>match j[h]? with
  |some e=>da d e b a
  |none=>bq
 |.opt _ d,c,.deref::b,a|.st d,c,.unst::b,a=>da d c b a
 |.nu i d,c,.unn::b,a=>match c with
  |some e=>da (.opt i d) e b a
  |none=>bq
 |.pr f _,c,.fst::b,a=>da f c.1 b a
 |.pr _ g,c,.snd::b,a=>da g c.2 b a
 |_,_,_,_=>bq
def zN {a:j.den}:da j a [] z=eV z a:=by cases j<;>rfl
theorem eH:∀{h:bp ax} {τ:af} {d:τ.den} {e:af} {f:e.den},da τ d h e=bn f->aX τ d h e f
 |[],τ,d,e,f,c=>by rw[zN] at c;cases fL c;grind [aX.cO]
 |s::h,τ,d,e,f,c=>by
  cases τ<;>cases s<;>simp only[da] at c<;>try (cases c;done)
  case osl.idx t i=>
   split at c
   ·rename_i g j;exact⟨g,j,eH c⟩
   grind
  case opt.deref k t=>exact eH (τ:=t) c
  case st.unst t=>exact eH (τ:=t) c
  case nu.unn k t=>
   cases d with
   |some g=>exact⟨g,br,eH (τ:=.opt k t) c⟩
   |none=>cases c
  case pr.fst a b=>exact eH (τ:=a) c
  case pr.snd a b=>exact eH (τ:=b) c
def nN {τ':af} (b:τ'.den) (a:af):bv a.den:=if e:aQ τ' a=bu then bn (cast (aQ.den e) b) else bq
theorem wV {b:z.den} {c:j.den} (a:nN b j=bn c):gX z b j c:=by
 unfold nN at a;split at a
 ·rename_i d;cases a;exact .same d (cast_heq _ _).symm
 grind
def nO:(c:af)->c.den->(b:af)->bv b.den
 |.opt _ e,a,.ptr .aG f=>(nN (τ':=e) a f).map bn
 |.opt d _,_,.aM=>bif bB d 2 then bn bu else bq
 |_,a,b=>nN a b
theorem wU {d:z.den} {e:j.den} (a:nO z d j=bn e):gX z d j e:=by
 unfold nO at a;split at a
 ·obtain⟨k,c,rfl⟩:=cF.1 a;simp only[nN] at c;split at c
  ·rename_i f;cases c;exact .ptr f (cast_heq _ _).symm
  grind
 ·rename_i g h i;cases b:bB g 2 with
  |false=>rw[b] at a;cases a
  |true=>
   rw[b] at a;obtain rfl:=a7 b;cases a;exact .aM
 exact wV a
def ja:af->Value->bA
 |τ,.agg _=>g6 τ
 |_,.tuple _=>bw
 |τ,_=>!g6 τ
theorem ja.ok (a:ja j y=bu):aN j y.cells.toList=y:=by
 cases y<;>simp only[ja] at a<;>first
  |(cases a;done)
  |(rw[qs a];rfl)
  |(rw[mT] at a;rw[nU a];rfl)
def hi (
 h:bp (bo×aj)) (f:ei):ag->(a:af)->bv a.den
 |.val _ i,a=>nN i a
 |.aS g,a=>bif ja a g then eZ a g.cells.toList else bq
 |.ref id c,a=>match a5 id f with
  |true=>bq
  |false=>match ah h id with
   |none=>bq
   |some b=>match bm b.1 c with
    |none=>bq
    |some d=>match da b.1 b.2 c d with
     |none=>bq
     |some e=>nO d e a
 |.addr id c,a=>match a5 id f with
  |true=>bq
  |false=>match ah h id with
   |none=>bq
   |some b=>match bm b.1 c with
    |none=>bq
    |some d=>match da b.1 b.2 c d with
     |none=>bq
     |some e=>nO (.opt 0 d) e a
 |_,_=>bq
theorem rc {g:j.den} (a:hi c h e j=bn g):n4 c h e ⟨j,g⟩:=by
 cases e with
 |val d b=>exact wV a
 |aS q=>
  simp only[hi] at a;cases o:ja j q with
  |false=>grind
  |true=>rw[o] at a;exact⟨a,ja.ok o⟩
 |ref id m=>
  simp only[hi] at a;split at a
  ·cases a
  rename_i i;split at a
  ·cases a
  rename_i n k;split at a
  ·cases a
  rename_i d p;split at a
  ·cases a
  rename_i b l;have:a5 id h=bw/\∃f d b,ah c id=bn f/\aX f.1 f.2 m d b/\gX d b j g:=⟨i,n,d,b,k,eH l,wU a⟩;exact this
 |addr id m=>
  simp only[hi] at a;split at a
  ·cases a
  rename_i i;split at a
  ·cases a
  rename_i n k;split at a
  ·cases a
  rename_i d p;split at a
  ·cases a
  rename_i b l;have:a5 id h=bw/\∃f d b,ah c id=bn f/\aX f.1 f.2 m d b/\gX (.opt 0 d) b j g:=⟨i,n,d,b,k,eH l,wU a⟩;exact this
 |_=>cases a
def lN (d:bp (bo×aj)) (c:ei):ag->(b:af)->bv b.den
 |.c0 a,.ptr .aE e=>bif im e then(hi d c a e).map bn else bq
 |a,b=>hi d c a b
def kM (d:bp (bo×aj)) (c:ei):bp ag->(b:af)->bv b.den
 |[],.nil=>bn ()
 |a::f,.pr e b=>bif im e then(lN d c a e).bind λh=>(kM d c f b).map λg=>(h,g) else bq
 |_,_=>bq
def nj (d:bp (bo×aj)) (c:ei):ag->(b:af)->bv b.den
 |.c0 (.aR f e),.ptr .aE (.fn g h)=>bif bB f g then(kM d c e h).map bn else bq
 |a,b=>lN d c a b
def tW {d:j.den} (a:lN c h e j=bn d):iq c h e j d:=by
 unfold lN at a;split at a
 ·rename_i i g;cases b:im g with
  |false=>rw[b] at a;cases a
  |true=>
   rw[b,bK] at a;obtain⟨k,f,rfl⟩:=cF.1 a;exact .c0 b (.base (rc f))
 exact .base (rc a)
def tY {h:bp (bo×aj)} {g:ei}:∀{f:bp ag} {c:af} {d:c.den},kM h g f c=bn d->mU h g f c d
 |[],c,d,b=>by
  cases c<;>simp only[kM] at b<;>try (cases b;done)
  exact .nil
 |a::f,c,d,b=>by
  cases c<;>simp only[kM] at b<;>try (cases b;done)
  rename_i c l;cases e:im c with
  |false=>rw[e] at b;cases b
  |true=>
   rw[e,bK] at b;obtain⟨m,j,b⟩:=a1.1 b;obtain⟨k,i,rfl⟩:=cF.1 b;exact .cons e (tW j) (tY i)
def yJ {d:j.den} (a:nj c h e j=bn d):iq c h e j d:=by
 unfold nj at a;split at a
 ·rename_i g k i l;cases b:bB g i with
  |false=>rw[b] at a;cases a
  |true=>
   rw[b,bK] at a;obtain rfl:=a7 b;obtain⟨m,f,rfl⟩:=cF.1 a;exact .c0 br (.aR (tY f))
 exact tW a
def iH (b:bp (bo×aj)) (a:ei):(g:bp af)->bp ag->bv (gm g)
 |[],[]=>bn ()
 |τ::d,c::as=>match nj b a c τ with
  |some f=>(iH b a d as).map (λe=>(f,e))
  |none=>bq
 |_,_=>bq
def vo {f:bp (bo×aj)} {d:ei}:∀{c:bp af} {e:bp ag} {b:gm c},iH f d c e=bn b->eU (λb g=>iq f d b g.1 g.2) e (eO c b)
 |[],[],_,_=>trivial
 |[],_::_,_,a|_::_,[],_,a=>by cases a
 |τ::k,j::as,b,a=>by
  simp only[iH] at a;split at a
  case h_2=>cases a
  rename_i m i;obtain⟨l,h,rfl⟩:=cF.1 a;exact⟨yJ i,vo h⟩
def jw:bp ag->bp cN->ei
 |.ref id []::as,.mg _ _::a|.ref id []::as,.o _::a|.view id [] _ _::as,.w _::a=>id::jw as a
 |_::as,_::a=>jw as a
 |_,_=>[]
def la:Value->bA
 |.slice bq 0 0=>bu
 |_=>bw
theorem la.ok (a:la y=bu):y=.slice bq 0 0:=by grind [la]
def oU:(a:af)->Value->bv a.den
 |.osl _,.slice bq 0 0=>bn []
 |_,_=>bq
theorem Bk {b:j.den} (a:oU j y=bn b):y=.slice bq 0 0/\∃c,(⟨j,b⟩:aj)=⟨.osl c,[]⟩:=by
 unfold oU at a;split at a
 ·simp_all
 grind
def cH (e:bp (bo×aj)) (f:ei):(t:bp cN)->bp ag->bv (c8 t)
 |[],[]=>bn ()
 |.v h::b,p::as=>match hi e f p h with
  |some g=>(cH e f b as).map (λa=>(g,a))
  |none=>bq
 |.c r u::b,.aR q a::as=>bif bB q r then match iH e f u a with
  |some g=>(cH e f b as).map (λa=>(g,a))
  |none=>bq else bq
 |.mg _ h::b,.ref id []::as=>bif h.cK&&ki h then match ah e id with
  |some i=>match eV h i.2 with
   |some g=>(cH e f b as).map (λa=>(g,a))
   |none=>bq
  |none=>bq else bq
 |.o h::b,.ref id []::as=>match ah e id with
  |some i=>match eV h i.2 with
   |some g=>(cH e f b as).map (λa=>(g,a))
   |none=>bq
  |none=>bq
 |.n::b,.aS j::as=>bif la j then(cH e f b as).map (λa=>((),a)) else bq
 |.s _ _::b,_::as=>(cH e f b as).map (λa=>((),a))
 |.d _ _ _::b,_::as=>(cH e f b as).map (λa=>((),a))
 |.o h::b,.aS j::as=>match oU h j with
  |some g=>(cH e f b as).map (λa=>(g,a))
  |none=>bq
 |.w m::b,.view id [] l k::as=>bif m.cK then(bif b3 l k then match ah e id with
  |some i=>match eV (.osl m) i.2 with
   |some g=>(cH e f b as).map (λa=>((g,l,k),a))
   |none=>bq
  |none=>bq else bq) else bq
 |_,_=>bq
def px {h:Type} (f:bp (bo×aj)) (e:ei) (av:ag) (c:af) (d:c.den->bv h):bv h:=match av with
 |.ref id g=>match a5 id e with
  |true=>bq
  |false=>match ah f id with
   |none=>bq
   |some a=>match bm a.1 g with
    |none=>bq
    |some i=>(da a.1 a.2 g i).bind λj=>match nO i j c with
     |none=>bq
     |some b=>d b
 |av=>match hi f e av c with
  |none=>bq
  |some b=>d b
theorem ym {d:j.den->bv a}:px c h e j d=(hi c h e j).bind d:=by
 cases e with
 |ref id f=>
  grind [a5,ah,bm,da,nO,px,hi]
 |_=>
  simp only[px];split
  ·rename_i b;rw[b];rfl
  rename_i b;rw[b];rfl
def fj {p:Type} (f:bp (bo×aj)) (g:ei):(x:bp cN)->bp ag->(c8 x->bv p)->bv p
 |[],[],a=>a ()
 |.v i::e,r::as,a=>px f g r i λh=>fj f g e as λb=>a (h,b)
 |.c u y::e,.aR t b::as,a=>bif bB t u then match iH f g y b with
  |some h=>fj f g e as λb=>a (h,b)
  |none=>bq else bq
 |.mg _ i::e,.ref id []::as,a=>bif i.cK&&ki i then match ah f id with
  |some j=>match eV i j.2 with
   |some h=>fj f g e as λb=>a (h,b)
   |none=>bq
  |none=>bq else bq
 |.o i::e,.ref id []::as,a=>match ah f id with
  |some j=>match eV i j.2 with
   |some h=>fj f g e as λb=>a (h,b)
   |none=>bq
  |none=>bq
 |.n::e,.aS k::as,a=>bif la k then fj f g e as λb=>a ((),b) else bq
 |.s _ _::e,_::as,a=>fj f g e as λb=>a ((),b)
 |.d _ _ _::e,_::as,a=>fj f g e as λb=>a ((),b)
 |.o i::e,.aS k::as,a=>match oU i k with
  |some h=>fj f g e as λb=>a (h,b)
  |none=>bq
 |.w q::e,.view id [] m l::as,a=>bif q.cK then(bif b3 m l then match ah f id with
  |some j=>match eV (.osl q) j.2 with
   |some h=>fj f g e as λb=>a ((h,m,l),b)
   |none=>bq
  |none=>bq else bq) else bq
 |_,_,_=>bq
theorem gM {A:Type} {g:bp (bo×aj)} {h:ei}:∀{r:bp cN} {u:bp ag} {a:c8 r->bv A},fj g h r u a=(cH g h r u).bind a
 |[],[],a|[],_::_,a=>rfl
 |p::b,[],a=>by cases p<;>rfl
 |.v j::b,e::as,a=>by
  simp only[fj,cH,ym];cases hi g h e j with
  |none=>rfl
  |some f=>
   simp only[IX];rw[gM];cases cH g h b as<;>rfl
 |.c z B::b,e::as,a=>by
  cases e with
  |aR y i=>
   simp only[fj,cH];cases bB y z with
   |false=>rfl
   |true=>
    simp only[bK];cases iH g h B i with
    |none=>rfl
    |some f=>
     simp only;rw[gM];cases cH g h b as<;>rfl
  |ref id p=>cases p<;>rfl
  |_=>rfl
 |.mg _ j::b,e::as,a=>by
  cases e with
  |ref id p=>
   cases p with
   |cons=>rfl
   |nil=>
    simp only[fj,cH];cases(j.cK&&ki j) with
    |false=>rfl
    |true=>
     simp only[bK];cases ah g id with
     |none=>rfl
     |some k=>
      simp only;cases eV j k.2 with
      |none=>rfl
      |some f=>
       simp only;rw[gM];cases cH g h b as<;>rfl
  |_=>rfl
 |.o j::b,e::as,a=>by
  cases e with
  |ref id p=>
   cases p with
   |cons=>rfl
   |nil=>
    simp only[fj,cH];cases ah g id with
    |none=>rfl
    |some k=>
     simp only;cases eV j k.2 with
     |none=>rfl
     |some f=>
      simp only;rw[gM];cases cH g h b as<;>rfl
  |aS t=>
   simp only[fj,cH];cases oU j t with
   |none=>rfl
   |some f=>
    simp only;rw[gM];cases cH g h b as<;>rfl
  |_=>rfl
 |.w x::b,e::as,a=>by
  cases e with
  |view id p q m=>
   cases p with
   |cons=>rfl
   |nil=>
    simp only[fj,cH];cases x.cK with
    |false=>rfl
    |true=>
     simp only[bK];cases b3 q m with
     |false=>rfl
     |true=>
     simp only[bK];cases ah g id with
     |none=>rfl
     |some k=>
      simp only;cases eV (.osl x) k.2 with
      |none=>rfl
      |some f=>
       simp only;rw[gM];cases cH g h b as<;>rfl
  |ref id p=>cases p<;>rfl
  |_=>rfl
 |.n::b,e::as,a=>by
  cases e with
  |aS t=>
   simp only[fj,cH];cases la t with
   |false=>rfl
   |true=>
    simp only[bK];rw[gM];cases cH g h b as<;>rfl
  |ref id p=>cases p<;>rfl
  |_=>rfl
 |.s D i::b,e::as,a=>by
  have l:∀f:bv (c8 b),(f.bind λi=>a ((),i))=(f.map λi=>((),i)).bind a:=λf=>(by cases f<;>rfl);cases e with
  |ref id p|view id p q m=>cases p<;>(simp only[fj,cH];rw[gM];grind)
  |_=>simp only[fj,cH];rw[gM];exact l _
 |.d E F C::b,e::as,a=>by
  have l:∀f:bv (c8 b),(f.bind λi=>a ((),i))=(f.map λi=>((),i)).bind a:=λf=>(by cases f<;>rfl);cases e with
  |ref id p|view id p q m=>cases p<;>(simp only[fj,cH];rw[gM];grind)
  |_=>simp only[fj,cH];rw[gM];exact l _
theorem qE {r:Type}:∀{ps:bp cN} {a:c8 ps} {b:eW ps r} {avs:bp ag},cY avs (bd ps a b)=jw avs ps
 |[],a,b,avs=>by cases avs with|nil=>rfl|cons h c=>cases h<;>first|rfl|(rename_i id p;cases p<;>rfl)|(rename_i id p c g;cases p<;>rfl)
 |p::c,a,b,[]=>by cases p<;>rfl
 |p::c,a,b,f::avs=>by have d:=λa b=>qE (r:=r) (ps:=c) (a:=a) (b:=b) (avs:=avs);cases p<;>cases f<;>first|exact d _ _|(rename_i id e;cases e<;>simp only[bd,cY,jw,d];done)|(rename_i id e c g;cases e<;>simp only[bd,cY,jw,d])
theorem h5 {J:Type} {q:bp (bo×aj)} {u:ei}:∀{x:bp cN} {f:c8 x} {i:eW x J} {h:bp ag},cH q u x h=bn f->fB q u h (bd x f i)
 |[],f,i,[],_=>trivial
 |[],f,i,_::_,a=>by cases a
 |p::j,f,i,[],a=>by cases p<;>cases a
 |.v y::j,f,i,b::h,a=>by
  simp only[cH] at a;split at a
  case h_2=>cases a
  rename_i k l;obtain⟨m,e,rfl⟩:=cF.1 a;exact⟨by cases b<;>exact rc l,h5 e⟩
 |.c H M::j,f,i,b::h,a=>by
  cases b with
  |aR G m=>
   simp only[cH] at a;cases g:bB G H with
   |false=>grind
   |true=>
    rw[g] at a;obtain rfl:=a7 g;simp only[bK] at a;split at a
    case h_2=>cases a
    rename_i k l;obtain⟨L,e,rfl⟩:=cF.1 a;exact⟨⟨br,vo l⟩,h5 e⟩
  |ref id p=>cases p<;>cases a
  |_=>cases a
 |.mg _ y::j,f,i,b::h,a=>by
  cases b with
  |ref id p=>cases p with
   |cons=>cases a
   |nil=>
    simp only[cH] at a;cases g:(y.cK&&ki y) with
    |false=>grind
    |true=>
     rw[g] at a;simp only[aC] at g;simp only[bK] at a;split at a
     case h_2=>cases a
     rename_i B A;split at a
     case h_2=>cases a
     rename_i k l;obtain⟨m,e,rfl⟩:=cF.1 a;refine⟨⟨?_,g.1,g.2⟩,h5 e⟩;grind [fL]
  |_=>cases a
 |.o y::j,f,i,b::h,a=>by
  cases b with
  |ref id p=>cases p with
   |cons=>cases a
   |nil=>
    simp only[cH] at a;split at a
    case h_2=>cases a
    rename_i B A;split at a
    case h_2=>cases a
    rename_i k l;obtain⟨m,e,rfl⟩:=cF.1 a;refine⟨?_,h5 e⟩;show ah q id=bn _;grind [fL]
  |aS C=>
   simp only[cH] at a;split at a
   case h_2=>cases a
   rename_i k l;obtain⟨m,e,rfl⟩:=cF.1 a;exact⟨Bk l,h5 e⟩
  |_=>cases a
 |.w K::j,f,i,b::h,a=>by
  cases b with
  |view id p t r=>cases p with
   |cons=>cases a
   |nil=>
    simp only[cH] at a;cases g:K.cK with
    |false=>grind
    |true=>
     rw[g] at a;simp only[bK] at a;cases z:b3 t r with
     |false=>grind
     |true=>
     rw[z] at a;simp only[bK] at a;split at a
     case h_2=>cases a
     rename_i B A;split at a
     case h_2=>cases a
     rename_i k l;obtain⟨m,e,rfl⟩:=cF.1 a;refine⟨⟨?_,⟨br,br⟩,c5 z,g⟩,h5 e⟩;grind [fL]
  |ref id p=>cases p<;>cases a
  |_=>cases a
 |.n::j,f,i,b::h,a=>by
  cases b with
  |aS C=>
   simp only[cH] at a;cases g:la C with
   |false=>grind
   |true=>
    rw[g] at a;obtain⟨m,e,rfl⟩:=cF.1 a;exact⟨la.ok g,h5 e⟩
  |ref id p=>cases p<;>cases a
  |_=>cases a
 |.s E m::j,f,i,b::h,a=>by
  have a:(cH q u j h).map (λk=>(((),k):c8 (.s E m::j)))=bn f:=by
   cases b with
   |ref id p|view id p t r=>cases p<;>exact a
   |_=>exact a
  obtain⟨k,e,rfl⟩:=cF.1 a;refine⟨?_,h5 e⟩;cases b with
  |ref id p|view id p t r=>cases p<;>trivial
  |_=>trivial
 |.d F I D::j,f,i,b::h,a=>by
  have a:(cH q u j h).map (λk=>(((),k):c8 (.d F I D::j)))=bn f:=by
   cases b with
   |ref id p|view id p t r=>cases p<;>exact a
   |_=>exact a
  obtain⟨k,e,rfl⟩:=cF.1 a;refine⟨?_,h5 e⟩;cases b with
  |ref id p|view id p t r=>cases p<;>trivial
  |_=>trivial
end
section
def hc:(τ:af)->τ.den->bp ax->(b:af)->b.den->bv τ.den
 |τ,_,[],_,a=>eV τ a
 |.osl f,i,.idx h::c,b,a=>match i[h]? with
  |some g=>(hc f g c b a).map λe=>i.set h e
  |none=>bq
 |.opt _ f,d,.deref::c,b,a|.st f,d,.unst::c,b,a=>hc f d c b a
 |.nu l f,d,.unn::c,b,a=>match d with
  |some g=>(hc (.opt l f) g c b a).map λe=>bn e
  |none=>bq
 |.pr j _,d,.fst::c,b,a=>(hc j d.1 c b a).map λe=>(e,d.2)
 |.pr _ k,d,.snd::c,b,a=>(hc k d.2 c b a).map λe=>(d.1,e)
 |_,_,_,_,_=>bq
theorem Ew {b:j.den} {a:z.den}:hc j b [] z a=eV j a:=by cases j<;>rfl
theorem be.Bg {d:j.den} {a:z.den} {b:j.den} (c:eV j a=bn b):be j d [] z a b:=by cases fL c;cases j<;>exact⟨br,br⟩
theorem hw:∀{m:bp ax} {τ:af} {f:τ.den} {g:af} {h:g.den} {j:τ.den},hc τ f m g h=bn j->be τ f m g h j
 |[],τ,f,g,h,j,c=>by grind [be.Bg,Ew]
 |s::m,τ,f,g,h,j,c=>by
  cases τ<;>cases s<;>simp only[hc] at c<;>try (cases c;done)
  case osl.idx t i=>
   split at c
   ·rename_i l n;obtain⟨d,e,rfl⟩:=cF.1 c;exact⟨l,d,n,hw e,br⟩
   grind
  case opt.deref k t=>exact hw (τ:=t) c
  case st.unst t=>exact hw (τ:=t) c
  case nu.unn k t=>
   cases f with
   |none=>cases c
   |some l=>
    obtain⟨d,e,rfl⟩:=cF.1 c;exact⟨l,d,br,hw (τ:=.opt k t) e,br⟩
  case pr.fst a b=>
   obtain⟨d,e,rfl⟩:=cF.1 c;exact⟨d,hw e,br⟩
  case pr.snd a b=>
   obtain⟨d,e,rfl⟩:=cF.1 c;exact⟨d,hw e,br⟩
def jm (a:bt):eb:=if 0<=a then bn a.toNat else bq
theorem A7 {a:bt} (b:jm a=bn f):a=(f:bt):=by grind [jm]
def fb (b:bo) (a:bt):eb:=if 0<=a/\a.toNat<b then bn a.toNat else bq
theorem vH {a:bt} (b:fb n a=bn f):a=(f:bt)/\f<n:=by grind [fb]
def gB (a:bo):bv bS:=if a<=fG then bn () else bq
theorem nD {a:bS} (b:gB f=bn a):f<=fG:=by grind [gB]
def mz (b:ca) (c a:bt):bv bt:=if a≠0 then bn (b.wrap (c.tdiv a)) else bq
def nV (b a:bt):bv bt:=if a≠0 then bn (b.tmod a) else bq
def iN (a:ca) (c b:bt):bv bt:=if 0<=b then bn (a.wrap (c*2^min b.toNat a.bits)) else bq
def e4 (b:ca) (c a:bt):bv bt:=if 0<=a then bn (c.fdiv (2^min a.toNat b.bits)) else bq
def e2 (a:ca) (b c:bt):bt:=a.wrap (ch a.bits b&&&ch a.bits c).toNat
def j7 (a:ca) (b c:bt):bt:=a.wrap (ch a.bits b|||ch a.bits c).toNat
def Ff (a:ca) (b c:bt):bt:=a.wrap (ch a.bits b^^^ch a.bits c).toNat
def ya (a:ca) (b c:bt):bt:=a.wrap (ch a.bits b&&&~~~ch a.bits c).toNat
def ng (c:bv ag) (a:bo):eb:=
 match c with
 |none=>bn a
 |some (.val (.int _) b)=>jm b
 |some _=>bq
theorem pA {b:bv ag} (a:ng b f=bn n):kK b f n:=by
 unfold ng at a;unfold kK;split at a
 ·grind
 ·exact A7 a
 grind
def jh (b a c:bo):bv bS:=if b<=a/\a<=c then bn () else bq
theorem vT {a:bo} {b:bS} (c:jh n f a=bn b):n<=f/\f<=a:=by grind [jh]
def qn (_:bo):bv bS:=bn ()
def jj (a b:bt):eb:=if 0<=a/\a<=b/\b<=(fG:bt) then bn a.toNat else bq
open Classical in
def oT {b:Type} (c:bo) (d a:bv b):bv b:=if c=0 then if d=a then a else bq else a
theorem Bd {c d:bv a} {b:a} (e:oT f c d=bn b):d=bn b/\(f=0->c=bn b):=by grind [absurd,oT]
def lO {b:Type} (a:bp b×bS):bv (bp b×bS):=oT a.1.length (bn ([],())) ((gB (([]:bp b).length+a.1.length)).bind λ_=>bn ([]++a.1,()))
def rq {a:Type} (b:bp a×bS):bv (bp a×bS):=(gB (([]:bp a).length+b.1.length)).bind λ_=>bn ([]++b.1,())
def ox (b:bp a×bS):lO b=rq b:=by
 unfold lO oT;split
 ·rename_i d;have c:rq b=bn ([],()):=by
   unfold rq;rw[ko d];rfl
  exact(bc c.symm).trans br
 rfl
def lM:eh:=[0,1,28,2,29,14,24,3,30,22,20,15,25,17,4,8,31,27,13,23,21,19,16,7,26,12,18,6,11,5,10,9]
inductive qU where
 |bk (av:ag)
 |opt (α:Type) (o:bv α) (f:α->ag)
 |new (α:Type) (o:bv α) (t:α->aj) (d:bo)
 |no
def vS:(b:af)->bv b.den->bv b.den
 |.aM,a=>a.bind λc=>bif (c:bA) then bn bu else bq
 |_,a=>a
def sR:(t:af)->t.den->ag
 |.aM,_=>.val .aM bu
 |t,a=>lf t a
def AA {d:bv j.den} {a:j.den} (b:vS j d=bn a):d=bn a/\sR j a=lf j a:=by
 cases j with
 |aM=>
  obtain⟨e,f,c⟩:=a1.1 b;cases e with
  |false=>cases c
  |true=>cases c;exact⟨f,br⟩
 |_=>exact⟨b,br⟩
def gg (tt:bp (bC×af)) (A:bp (bo×af)) (l:bp (bo×aj)) (g:bH->ag) (w:bo) (v:Op):qU:=
 match v with
 |.binOp v _ b e _=>match g b,g e with
  |.val (.int c) b,.val (.int B) e=>if c=B then
   (match v with
   |.add=>.bk (.val (.int c) (c.wrap (b+e)))
   |.sub=>.bk (.val (.int c) (c.wrap (b-e)))
   |.mul=>.bk (.val (.int c) (c.wrap (b*e)))
   |.quo=>.opt bt (mz c b e) (.val (.int c))
   |.rem=>.opt bt (nV b e) (.val (.int c))
   |.shl=>.opt bt (iN c b e) (.val (.int c))
   |.shr=>.opt bt (e4 c b e) (.val (.int c))
   |.and=>.bk (.val (.int c) (e2 c b e))
   |.or=>.bk (.val (.int c) (j7 c b e))
   |.xor=>.bk (.val (.int c) (Ff c b e))
   |.andNot=>.bk (.val (.int c) (ya c b e))
   |_=>.no) else
   (match v with
   |.shl=>.opt bt (iN c b e) (.val (.int c))
   |.shr=>.opt bt (e4 c b e) (.val (.int c))
   |_=>.no)
  |_,_=>.no
 |.unOp .neg _ b=>match g b with
  |.val (.int c) b=>.bk (.val (.int c) (c.wrap (0-b)))
  |_=>.no
 |.convert t p b=>match ah tt t,ah tt p,g b with
  |some (.int _),bn (.int c),.val (.int _) b=>.bk (.val (.int c) (c.wrap b))
  |_,_,_=>.no
 |.nilCheck b=>match g b with
  |.val (.ptr r a) b=>.opt a.den b λe=>.val (.ptr r a) (bn e)
  |_=>.no
 |.indexAddr i b q=>match ew tt i,g q with
  |some h,.val (.int _) q=>match g b with
   |.val (.au r a) j=>bif aD h a then .opt a.den (c7 j q) λe=>.val (.ptr r a) (bn e) else .no
   |.ref id f=>match ah l id with
    |some d=>match bm d.1 f with
     |some (.osl a)=>bif aD h a then .opt bo ((da d.1 d.2 f (.osl a)).bind λj=>fb j.length q) λc=>.addr id (f++[.idx c]) else .no
     |_=>.no
    |none=>.no
   |.view id [] s u=>match ah l id with
    |some d=>match d.1 with
     |.osl a=>bif aD h a then .opt bo (fb (u-s) q) λc=>.addr id [.idx (s+c)] else .no
     |_=>.no
    |none=>.no
   |_=>.no
  |_,_=>.no
 |.load i b=>match ah tt i with
  |some h=>match g b with
   |.addr id f=>match ah l id with
    |some d=>match bm d.1 f with
     |some .aM=>bif aD h .aM then(match lp 2 d.1 with
      |some k=>.opt bA ((da d.1 d.2 f .aM).bind λe=>bif (e:bA)&&h6 k.1 d.1 d.2 then bn e else bq) λ_=>.ref id k.1
      |none=>.opt bA ((da d.1 d.2 f .aM).bind λe=>bif (e:bA) then bn e else bq) λ_=>.val .aM bu) else .no
     |some a=>bif aD h a&&a.pure then .opt a.den (da d.1 d.2 f a) λe=>.val a e else match a with
      |.nu c y=>bif aD h (.nu c y) then .opt (bv y.den) ((da d.1 d.2 f (.nu c y)).bind λe=>bif Jc e then bn e else bq) λ_=>.ref id (f++[.unn]) else .no
      |_=>.no
     |none=>.no
    |none=>.no
   |.ref id f=>match ah l id with
    |some d=>match bm d.1 f with
     |some (.opt _ a)=>bif aD h a&&a.pure then .opt a.den (da d.1 d.2 (f++[.deref]) a) λe=>.val a e else .no
     |_=>.no
    |none=>.no
   |.val (.ptr _ a) b=>bif aD h a then .opt a.den (vS a b) λe=>sR a e else .no
   |_=>.no
  |none=>.no
 |.fieldAddr i b n=>match gP tt i,g b with
  |some h,.val (.ptr r (.st a)) b=>bif aD h a&&(cR a n).isSome then .opt a.den b λe=>(match jS a e n with
   |some k=>.val (.ptr r k.1) (bn k.2)
   |none=>.dead) else .no
  |_,_=>.no
 |.slice i b s u bq=>match ew tt i with
  |some h=>match g b with
   |.val (.au r a) j=>bif aD h a then
    .opt dS ((ng (s.map g) 0).bind λm=>(ng (u.map g) j.length).bind λp=>(jh m p j.length).map λ_=>(m,p)) (λk=>.val (.au r a) ((j.take k.2).drop k.1)) else .no
   |.ref id f=>match ah l id with
    |some d=>match bm d.1 f with
     |some (.osl a)=>bif aD h a then
      .opt dS ((da d.1 d.2 f (.osl a)).bind λj=>(ng (s.map g) 0).bind λm=>(ng (u.map g) j.length).bind λp=>(jh m p j.length).bind λ_=>(qn j.length).map λ_=>(m,p)) (λk=>.view id f k.1 k.2) else .no
     |_=>.no
    |none=>.no
   |_=>.no
  |none=>.no
 |.makeSlice i m o=>match ew tt i,ah A w,ah l w with
  |some h,bn (.osl a),bq=>match hd a,g m,g o with
   |some z,.val (.int _) m,.val (.int _) o=>bif aD h a&&bR a.size 2000 then
    .new bo (jj m o) (λn=>⟨.osl a,bZ n z⟩) w else .no
   |_,_,_=>.no
  |_,_,_=>.no
 |.index i b q=>match ah tt i,g b,g q with
  |some .str,.aS (.string t),.val (.int _) n|some .str,.val .str t,.val (.int _) n=>.opt bt (ln t n) (.val (.int .u8))
  |_,_,_=>.no
 |.lookup i b c C=>match gA tt i,g b,g c with
  |some h,.ref id f,.val (.int .i64) c=>match ah l id with
   |some d=>match bm d.1 f with
    |some (.mp a)=>match hd a with
     |some z=>bif aD h a then .opt (bv (bp (bt×a.den)×bo)) (da d.1 d.2 f (.mp a)) λx=>p9 a x z c C else .no
     |none=>.no
    |_=>.no
   |none=>.no
  |_,_,_=>.no
 |.call o=>match o.callee,o.args.toList,o.argTypes.toList with
  |.builtin .len,[b],[i]=>match ew tt i,g b with
   |some _,.ref id f=>match ah l id with
    |some d=>match bm d.1 f with
     |some (.osl a)=>.opt (bp a.den) (da d.1 d.2 f (.osl a)) λj=>.val (.int .i64) (j.length:bt)
     |_=>.no
    |none=>.no
   |none,.ref id f=>match gA tt i,ah l id with
    |some _,bn d=>match bm d.1 f with
     |some (.mp a)=>.opt (bv (bp (bt×a.den)×bo)) (da d.1 d.2 f (.mp a)) λx=>.val (.int .i64) (nF x)
     |_=>.no
    |_,_=>.no
   |_,_=>.no
  |_,_,_=>.no
 |_=>.no
theorem vc:∀{t:af} {y:t.den} {b:bo},(cR t b).isSome=bu->∃d,jS t y b=bn d
 |.pr e c,y,0,_=>⟨_,br⟩
 |.pr e c,y,b+1,a=>by
  simp only[cR] at a;split at a
  ·rename_i d f;exact vc (t:=c) ab
  grind
 |.int _,_,_,a|.bool,_,_,a|.str,_,_,a|.au _ _,_,_,a|.ptr _ _,_,_,a|.osl _,_,_,a|.opt _ _,_,_,a|.st _,_,_,a|.nil,_,_,a|.aY,_,_,a=>by cases a
def qU.K (g:qU) (b:ag->bp (bo×aj)->Prop):Prop:=
 match g with
 |.bk e=>b e []
 |.opt _ c f=>∃a,c=bn a/\b (f a) []
 |.new _ c h d=>∃a,c=bn a/\b (.ref d []) [(d,h a)]
 |.no=>bY
theorem rT {tt:bp (bC×af)} {T:bH->ag} {S:Op} {B:ag->bp (bo×aj)->Prop} (a:(gg tt l c T f S).K B):(eA tt l c T f S).K B:=by
 unfold gg at a;split at a
 ·rename_i S v m h ci;simp only[eA];split at a
  case h_2=>exact a.elim
  rename_i t m am h i av;simp only[i,av];split at a
  ·rename_i C;subst C;split at a
   ·simp only[g0,b8];exact⟨_,⟨trivial,br⟩,a⟩
   ·simp only[g0,b8];exact⟨_,⟨trivial,br⟩,a⟩
   ·simp only[g0,b8];exact⟨_,⟨trivial,br⟩,a⟩
   ·obtain⟨A,j,d⟩:=a;unfold mz at j;split at j
    ·rename_i b;cases j;simp only[g0,b8];exact⟨_,⟨b,br⟩,d⟩
    grind
   ·obtain⟨A,j,d⟩:=a;unfold nV at j;split at j
    ·rename_i b;cases j;simp only[g0,b8];exact⟨_,⟨b,br⟩,d⟩
    grind
   ·obtain⟨A,j,d⟩:=a;unfold iN at j;split at j
    ·rename_i b;cases j;exact⟨_,⟨b,br⟩,d⟩
    grind
   ·obtain⟨A,j,d⟩:=a;unfold e4 at j;split at j
    ·rename_i b;cases j;exact⟨_,⟨b,br⟩,d⟩
    grind
   ·simp only[g0,b8];exact⟨_,⟨trivial,br⟩,a⟩
   ·simp only[g0,b8];exact⟨_,⟨trivial,br⟩,a⟩
   ·simp only[g0,b8];exact⟨_,⟨trivial,br⟩,a⟩
   ·simp only[g0,b8];exact⟨_,⟨trivial,br⟩,a⟩
   exact a.elim
  split at a
  ·obtain⟨A,j,d⟩:=a;unfold iN at j;split at j
   ·rename_i b;cases j;exact⟨_,⟨b,br⟩,d⟩
   grind
  ·obtain⟨A,j,d⟩:=a;unfold e4 at j;split at j
   ·rename_i b;cases j;exact⟨_,⟨b,br⟩,d⟩
   grind
  exact a.elim
 ·rename_i v m;simp only[eA];split at a
  case h_2=>exact a.elim
  rename_i t m i;rw[i];exact⟨_,br,a⟩
 ·rename_i ap C m;simp only[eA,pC];split at a
  case h_2=>exact a.elim
  rename_i am t cs m ak o i;rw[ak,o,i];exact⟨_,br,a⟩
 ·rename_i m;simp only[eA,ms];split at a
  case h_2=>exact a.elim
  rename_i I g m i;rw[i];obtain⟨h,rfl,d⟩:=a;exact⟨h,br,d⟩
 ·rename_i v m ad;simp only[eA,ma];split at a
  case h_2=>exact a.elim
  rename_i k t ad ak o;rw[ak,o];simp only;split at a
  ·rename_i I g H i;rw[i];simp only;cases e:aD k g with
   |false=>rw[e] at a;exact a.elim
   |true=>
   rw[e] at a;obtain⟨h,b,d⟩:=a;exact⟨h,b,d⟩
  ·rename_i id x i;rw[i];simp only;split at a
   case h_2=>exact a.elim
   rename_i n q;rw[q];simp only;split at a
   case h_2=>exact a.elim
   rename_i g r;rw[r];simp only;cases e:aD k g with
   |false=>rw[e] at a;exact a.elim
   |true=>
   rw[e] at a;obtain⟨h,b,d⟩:=a;obtain⟨H,Q,b⟩:=a1.1 b;obtain⟨s,p⟩:=vH b;exact⟨(H,h),⟨eH Q,s,p⟩,d⟩
  ·rename_i id bs a0 i;rw[i];simp only;split at a
   case h_2=>exact a.elim
   rename_i n q;obtain⟨ds,m⟩:=n;rw[q];simp only at a|-;split at a
   case h_2=>exact a.elim
   rename_i g;simp only[bm];cases e:aD k g with
   |false=>rw[e] at a;exact a.elim
   |true=>
   rw[e] at a;obtain⟨t,a3,d⟩:=a;obtain⟨s,p⟩:=vH a3;exact⟨(m,t),⟨⟨br,br⟩,s,p⟩,d⟩
  exact a.elim
 ·rename_i v m;simp only[eA,mj];split at a
  case h_2=>exact a.elim
  rename_i k ak;rw[ak];simp only;split at a
  ·rename_i id x i;rw[i];simp only;split at a
   case h_2=>exact a.elim
   rename_i n q;rw[q];simp only;split at a
   case h_3=>exact a.elim
   ·rename_i r;rw[r];cases e:aD k .aM with
    |false=>rw[e] at a;exact a.elim
    |true=>
    rw[e] at a;simp only[bK] at a;simp only[e,bK];split at a
    ·rename_i an O;obtain⟨h,b,d⟩:=a;obtain⟨z,s,p⟩:=a1.1 b;cases u:((z:bA)&&h6 an.1 n.1 n.2) with
     |false=>rw[u] at p;cases p
     |true=>
     simp only[aC] at u;refine⟨z,eH s,?_⟩;show B (l7 n.1 n.2 id z) [];unfold l7;rw[u.1,O];simp only[u.2,bK];exact d
    rename_i O;obtain⟨h,b,d⟩:=a;obtain⟨z,s,p⟩:=a1.1 b;cases z with
    |false=>cases p
    |true=>
    refine⟨bu,eH s,?_⟩;show B (l7 n.1 n.2 id bu) [];unfold l7;rw[O];exact d
   rename_i g a4 r;rw[r];simp only;have bl:o1 n.1 n.2 id x g=lj n.1 n.2 id x g:=by
    unfold o1;split
    ·exact(a4 br).elim
    rfl
   rw[bl];simp only[lj];cases e:(aD k g&&g.pure) with
   |false=>
    rw[e] at a;simp only[cq] at a;split at a
    case h_2=>exact a.elim
    rename_i t bx;cases E:aD k (.nu t bx) with
    |false=>rw[E] at a;exact a.elim
    |true=>
    rw[E] at a;obtain⟨h,b,d⟩:=a;obtain⟨z,s,p⟩:=a1.1 b;cases u:Jc z with
    |false=>rw[u] at p;cases p
    |true=>
    refine⟨z,eH s,?_⟩;show B (sK id x (Jc z)) [];unfold sK;rw[u];exact d
   |true=>
   rw[e] at a;simp only[aC] at e;rw[e.1,e.2];obtain⟨h,b,d⟩:=a;exact⟨h,eH b,d⟩
  ·rename_i id x i;rw[i];simp only;split at a
   case h_2=>exact a.elim
   rename_i n q;rw[q];simp only;split at a
   case h_2=>exact a.elim
   rename_i g r;rw[r];simp only[lj];cases e:(aD k g&&g.pure) with
   |false=>rw[e] at a;exact a.elim
   |true=>
   rw[e] at a;simp only[aC] at e;rw[e.1,e.2];obtain⟨h,b,d⟩:=a;exact⟨h,eH b,d⟩
  ·rename_i I g m i;rw[i];cases e:aD k g with
   |false=>rw[e] at a;exact a.elim
   |true=>
   rw[e] at a;obtain⟨h,b,d⟩:=a;obtain⟨rfl,o⟩:=AA b;have d:B (sR g h) []:=d;rw[o] at d;simp only[e,bK];exact d
  exact a.elim
 ·rename_i v m R;simp only[eA,l0];split at a
  case h_2=>exact a.elim
  rename_i k I g m ak i;rw[ak,i];cases e:(aD k g&&(cR g R).isSome) with
  |false=>rw[e] at a;exact a.elim
  |true=>
  rw[e] at a;simp only[aC] at e;obtain⟨h,rfl,d⟩:=a;obtain⟨an,V⟩:=vc (y:=h) e.2;simp only[V] at d;simp only[e.1,bK,V];exact d
 ·rename_i v m bs a0;simp only[eA,mH];split at a
  case h_2=>exact a.elim
  rename_i k ak;rw[ak];simp only;split at a
  ·rename_i I g H i;rw[i];simp only;cases e:aD k g with
   |false=>rw[e] at a;exact a.elim
   |true=>
   rw[e] at a;obtain⟨h,b,d⟩:=a;obtain⟨F,E,b⟩:=a1.1 b;obtain⟨C,N,b⟩:=a1.1 b;obtain⟨ce,P,rfl⟩:=cF.1 b;obtain⟨s,p⟩:=vT P;exact⟨(F,C),⟨pA E,pA N,s,p⟩,d⟩
  ·rename_i id x i;rw[i];simp only;split at a
   case h_2=>exact a.elim
   rename_i n q;rw[q];simp only;split at a
   case h_2=>exact a.elim
   rename_i g r;rw[r];simp only;cases e:aD k g with
   |false=>rw[e] at a;exact a.elim
   |true=>
   rw[e] at a;obtain⟨h,b,d⟩:=a;obtain⟨H,Q,b⟩:=a1.1 b;obtain⟨F,E,b⟩:=a1.1 b;obtain⟨C,N,b⟩:=a1.1 b;obtain⟨ce,P,b⟩:=a1.1 b;obtain⟨dl,co,rfl⟩:=cF.1 b;obtain⟨s,p⟩:=vT P;exact⟨(H,F,C),⟨eH Q,pA E,pA N,s,p⟩,d⟩
  exact a.elim
 ·rename_i v F L;simp only[eA,mm];split at a
  case h_2=>exact a.elim
  rename_i k g ak o w;rw[ak,o,w];simp only;split at a
  case h_2=>exact a.elim
  rename_i A t F am L D G M;rw[D,G,M];simp only;cases e:(aD k g&&bR g.size 2000) with
  |false=>rw[e] at a;exact a.elim
  |true=>
  rw[e] at a;obtain⟨h,b,d⟩:=a;unfold jj at b;split at b
  ·rename_i u;cases b;exact⟨(F.toNat,L.toNat),⟨(JY u.1).symm,(JY (Int.le_trans u.1 u.2.1)).symm,U,U⟩,d⟩
  grind
 ·rename_i v m ad;simp only[eA,qD];split at a
  ·rename_i ap t R ak o w;rw[ak,o,w];obtain⟨J,e,d⟩:=a;exact⟨J,e,d⟩
  ·rename_i ap t R ak o w;rw[ak,o,w];obtain⟨J,e,d⟩:=a;exact⟨J,e,d⟩
  exact a.elim
 ·rename_i v m t cv;simp only[eA,ml];split at a
  case h_2=>exact a.elim
  rename_i k id x t ak o w;rw[ak,o,w];simp only;split at a
  case h_2=>exact a.elim
  rename_i n q;rw[q];simp only;split at a
  case h_2=>exact a.elim
  rename_i g r;rw[r];simp only;split at a
  case h_2=>exact a.elim
  rename_i A j;rw[j];simp only;cases e:aD k g with
  |false=>rw[e] at a;exact a.elim
  |true=>
  rw[e] at a;obtain⟨h,b,d⟩:=a;exact⟨h,eH b,d⟩
 ·rename_i L;simp only[eA];split at a
  ·rename_i m v ak o w;rw[ak,o,w];simp only;split at a
   ·rename_i k id x D G;rw[D,G];simp only[mh,D];split at a
    case h_2=>exact a.elim
    rename_i n q;rw[q];simp only;split at a
    case h_2=>exact a.elim
    rename_i g r;rw[r];obtain⟨h,b,d⟩:=a;exact⟨h,eH b,d⟩
   ·rename_i id x D G;rw[D,G];simp only[mn];split at a
    case h_2=>exact a.elim
    rename_i k n M q;rw[M,q];simp only;split at a
    case h_2=>exact a.elim
    rename_i g r;rw[r];obtain⟨h,b,d⟩:=a;exact⟨h,eH b,d⟩
   exact a.elim
  exact a.elim
 exact a.elim
def gL {e:Type} (c d:bp e) (a b:bo):bp e:=c.take a++(d.take (b-a)++c.drop (a+min d.length (b-a)))
open Classical in
@[irreducible] def Fj {c d:Type} (b:bo->c->bv d) (a:c):bv d:=
 match b r4 a with
 |some e=>bn e
 |none=>if h:∃f,(b f a).isSome=bu then b h.choose a else bq
end
section
def md (a:bA):ag->bA
 |.val b _=>a||e8 b
 |_=>bw
def nB (a:bA):ag->bA
 |.val c _=>a||e8 c
 |.aR _ b=>b.all (md a)
 |_=>bw
theorem sq (b:nB T e=bu):∀id∈e.ids,False:=by
 intro id c;cases e with
 |val f d=>grind [bM]
 |aR g a=>
  have b:a.all (md T)=bu:=b;have:∀a:bp ag,a.all (md T)=bu->∀id∈Ia a,False:=by
   intro a
   induction a with
   |nil=>grind [Ia]
   |cons e a h=>
    intro b id c;simp only[fX,aC] at b;simp only[Ia,fY] at c;rcases c with c|c
    ·cases e with
     |val f d=>grind [bM]
     |_=>cases b.1
    grind
  exact this a b id c
 |_=>cases b
def lU:∀{τ:af} {x:τ.den},e8 τ=bu->g3 τ x=bu
 |.int _,_,_|.bool,_,_|.str,_,_|.nil,_,_|.aY,_,_|.aB _,_,_|.eB _,_,_=>rfl
 |.aM,_,a=>by cases a
 |.au _ _,_,a|.ptr _ _,_,a|.osl _,_,a|.mp _,_,a|.bh _ _,_,a|.fn _ _,_,a=>a
 |.opt e b,x,a=>by simp only[e8,aC] at a;simp only[g3,aC];exact⟨a.1,lU (τ:=b) a.2⟩
 |.nu e b,x,a=>by
  simp only[e8,aC] at a;cases x with
  |none=>rfl
  |some f=>
   simp only[g3,aC];exact⟨a.1,lU (τ:=b) a.2⟩
 |.st b,x,a=>lU (τ:=b) (x:=x) a
 |.pr c d,x,a=>by simp only[e8,aC] at a;simp only[g3,aC];exact⟨lU (τ:=c) a.1,lU (τ:=d) a.2⟩
def Ax (a:nB bw e=bu):e.eS=bu:=by
 cases e with
 |val c g=>exact lU (τ:=c) (by simpa[nB] using a)
 |aR h b=>
  have f:∀b:bp ag,b.all (md bw)=bu->ag.lT b=bu:=λb=>by
   induction b with
   |nil=>exactλ_=>rfl
   |cons e b d=>
    intro a;simp only[fX,aC] at a;simp only[ag.lT,aC];refine⟨?_,d a.2⟩;cases e with
    |val c g=>exact lU (τ:=c) (by simpa[md] using a.1)
    |_=>cases a.1
  exact f b a
 |_=>cases a
def vQ {a:aZ} {d:bo->bo×bo} (f:nB T e=bu) (g:T=bu->d=a.t) (b:aJ a p c w x e y):aJ ⟨a.m,d⟩ p c w x e y:=by
 cases T with
 |true=>rw[g br];exact b
 |false=>exact b.eS (Ax f)
def iT (C:a6) (c:bp (bo×ag)):Prop:=
 (∀a,C.I0 a\/C.B a->a<C.w0.heap.size/\¬C.F0 a)/\
 ∀b∈c,b.1∈C.pin/\nB C.fx b.2=bu/\aJ (az C.I0 C.B) C.w0 [] (λ_=>[]) (λ_=>[]) b.2 (C.vs b.1)
section
variable {E:cG} {C:a6}
def iT.nil (b:∀a,C.I0 a\/C.B a->a<C.w0.heap.size/\¬C.F0 a):iT C []:=⟨b,λc b=>by cases b⟩
theorem zR (c b:bp (bo×ag)) (a:bo):gt (c++b) a=match ah c a with|some d=>d|none=>gt b a:=by grind [fS,ah,gt]
theorem oQ {e:Type}:∀{c:bp (bo×e)} {b:bo} {d:e},ah c b=bn d->(b,d)∈c
 |[],_,_,a=>by cases a
 |(f,v0)::c,b,d,a=>by
  rw[aU] at a;split at a
  ·grind
  exact eJ _ (oQ a)
def cV.kg {f:bp (bo×ag)} (n:iT C f) {o:dY} (r:cV C i o p):cV C ⟨f++i.g,i.h⟩ o p:=by
 obtain⟨j,A,q,a⟩:=r;refine⟨j,A,q,{a with tmp:=λd=>?_}⟩;show aJ _ _ _ _ _ (gt (f++i.g) d) _;rw[zR];split
 ·rename_i k w;obtain⟨s,l,c⟩:=n.2 _ (oQ w);have c:aJ (az C.I0 C.B) C.w0 [] (λ_=>[]) (λ_=>[]) k (C.vs d):=c;rw[a.pin d s];have c:aJ ⟨(az C.I0 C.B).m,j.t⟩ C.w0 [] (λ_=>[]) (λ_=>[]) k (C.vs d):=vQ l a.it c;refine c.j5 (λx b e=>?_) (λid v=>(sq l id v).elim);have u:C.I0 b\/C.B b:=hq e;obtain⟨y,z⟩:=n.1 b u;refine⟨?_,Jq (a.frame b y z)⟩;cases x
  ·exact a.i0 b e
  exact e.imp (a.i0 b) id
 exact a.tmp d
def J.kg {d:bp (bo×ag)} (k:iT C d) {c:b7} {a:aq} {b:bU->aq->Prop} (f:J E C c ⟨d++a.g,a.h⟩ b):J E C c a b:=
 λe l i j=>f e l (i.kg k) j
def iK (a:bA) (b:bp (bo×ag)):ei->bv (bp (bo×ag))
 |[]=>bn []
 |k::d=>match gt b k with
  |.val f h=>bif a||e8 f then(iK a b d).map λc=>(k,.val f h)::c else bq
  |.aR g e=>bif e.all (md a) then(iK a b d).map λc=>(k,.aR g e)::c else bq
  |_=>bq
theorem sl {e:bA} {j:bp (bo×ag)}:∀{i:ei} {f:bp (bo×ag)},iK e j i=bn f->∀c∈f,c.1∈i/\nB e c.2=bu/\gt j c.1=c.2
 |[],f,a,c,b=>by cases a;cases b
 |k::i,f,a,c,b=>by
  simp only[iK] at a;split at a
  ·rename_i p r h;cases d:(e||e8 p) with
   |false=>rw[d] at a;cases a
   |true=>
   rw[d] at a;obtain⟨o,g,rfl⟩:=cF.1 a;rcases c2.1 b with rfl|b
   ·exact⟨jC ..,d,h⟩
   obtain⟨l,m⟩:=sl g c b;grind
  ·rename_i q n h;cases d:n.all (md e) with
   |false=>grind
   |true=>
   rw[d] at a;obtain⟨o,g,rfl⟩:=cF.1 a;rcases c2.1 b with rfl|b
   ·exact⟨jC ..,d,h⟩
   obtain⟨l,m⟩:=sl g c b;grind
  grind
theorem J.keep {O:b7} {I L:bp (bo×ag)} {K:ei} {N:bU->aq->Prop} (r:iT C I) (a4:iK C.fx i.g K=bn L) (k:∀f:a6,f.n=C.n->f.fx=C.fx->f.pin=K++C.pin->iT f (L++I)->(∀w,lC C w->lC f w)->(gu E C.I0 C.w0->gu E f.I0 f.w0)->J E f O i N):J E C O i N:=by
 rintro y M ⟨x,R,F,b⟩ av
 let f:a6:={I0:=x,B:=C.B,F0:=λa=>∃id d,ah i.h id=bn d/\a∈F id,w0:=M,n:=C.n,pin:=K++C.pin,vs:=λq=>y.tmps.getD q bL,fx:=C.fx}
 have an:aK f i y.tmps M x R F:=
  {n:=b.n,i0:=λ_ k=>k,it:=λ_=>rfl,i1:=λ_ k=>.inl k,ib:=b.ib,tree:=λid d j=>⟨(b.tree id d j).1,(b.tree id d j).2.1,λa c=>⟨((b.tree id d j).2.2 a c).1,((b.tree id d j).2.2 a c).2.1,((b.tree id d j).2.2 a c).2.2.1,.inr ⟨id,d,j,c⟩⟩⟩,dis:=b.dis,tmp:=b.tmp,frame:=λ_ _ _=>rfl,evo:=λ_ _=>.refl _ _,size:=eL _,os:=rfl,tape:=rfl,output:=rfl,pin:=λq _=>rfl}
 have a3:iT f (L++I):=by
  refine⟨λa c=>⟨b.ib a c,?_⟩,λs p=>?_⟩
  ·rintro⟨id,d,j,ap⟩;obtain⟨A,D,_⟩:=(b.tree id d j).2.2 a ap;grind
  rcases fY.1 p with p|p
  ·obtain⟨l,o,u⟩:=sl a4 s p;refine⟨fY.2 (.inl l),o,?_⟩;have:=b.tmp s.1;rw[u] at this;exact this.j5 (λQ a v=>⟨v,b4 _ _⟩) (λid G=>(sq o id G).elim)
  obtain⟨l,o,u⟩:=r.2 s p;refine⟨fY.2 (.inr l),o,?_⟩;show aJ _ _ _ _ _ _ (y.tmps.getD s.1 bL);rw[b.pin _ l];have u:aJ ⟨(az C.I0 C.B).m,x.t⟩ C.w0 [] (λ_=>[]) (λ_=>[]) s.2 (C.vs s.1):=vQ o b.it u;refine u.j5 (λQ a v=>?_) (λid G=>(sq o id G).elim);obtain⟨A,D⟩:=r.1 a (hq v);refine⟨?_,Jq (b.frame a A D)⟩;cases Q
  ·exact b.i0 a v
  exact v.imp (b.i0 a) id
 have bs:∀w,lC C w->lC f w:=by
  rintro(_|⟨q,d5,d7⟩) bl
  ·trivial
  obtain⟨S,T,a,bx,d2,dl,U,ds,d8,d0⟩:=bl;refine⟨jB _ S,λz H=>jB _ (T z H),a,bx,d2,(b.pin q S).trans dl,gv U b.size,?_,?_,?_⟩
  ·rintro⟨id,d,j,c⟩;rcases((b.tree id d j).2.2 a c).2.2.2 with l|l
   ·omega
   grind
  ·have c:=b.frame a U ds;grind [block,Ii]
  rw[d0];exact hf λz H=>(b.pin z (T z H)).symm
 refine wp_mono (k f br rfl rfl a3 bs (λam=>b.glob r.1 am) y M ⟨x,R,F,an⟩ av) ?_;rintro d4 d3 d9 ⟨d1,p,⟨V,cv,ad,e⟩,a0⟩;have d6:∀a,f.F0 a->C.w0.heap.size<=a\/C.F0 a:=(by rintro a ⟨id,d,j,c⟩;exact((b.tree id d j).2.2 a c).2.2.2);refine⟨d1,p,⟨V,cv,ad,?_⟩,a0⟩;refine{n:=e.n,i0:=λa c=>e.i0 a (b.i0 a c),it:=λP=>(e.it P).trans (b.it P),i1:=λa c=>?_,ib:=e.ib,tree:=λid d j=>?_,dis:=e.dis,tmp:=e.tmp,frame:=λa l o=>?_,evo:=λa c=>(b.evo a c).trans (e.evo a (gv c b.size)),size:=iy b.size e.size,os:=e.os.trans b.os,tape:=e.tape.trans b.tape,output:=e.output.trans b.output,pin:=λq r=>?_}
 ·rcases e.i1 a c with k|k|k
  ·exact b.i1 a k
  ·exact .inr (.inl (iy b.size k))
  grind
 ·obtain⟨A,D,aA⟩:=e.tree id d j;refine⟨A,D,λa c=>?_⟩;obtain⟨ce,ci,co,cs⟩:=aA a c;refine⟨ce,ci,co,?_⟩;rcases cs with k|k
  ·exact .inl (iy b.size k)
  grind
 ·refine(e.frame a (gv l b.size) ?_).trans (b.frame a l o);grind
 rw[e.pin q (fY.2 (.inr r))];exact b.pin q r
end
end
structure aL where
 d:bv (bo×ag)
 S:ei
 keep:bp (bo×bp ax)
 put:bp (bo×aj)
def hP (a:ei) (c:bp (bo×bp ax)) (b:bp (bo×ag)):bp (bo×ag):=match a with
 |[]=>b
 |_=>kill a c b
def jP (a:ei) (b:bp (bo×aj)):bp (bo×aj):=match a with
 |[]=>b
 |_=>del a b
def aL.app (a:aL) (b:aq):aq:=⟨match a.d with
 |some c=>c::hP a.S a.keep b.g
 |none=>hP a.S a.keep b.g,a.put++jP a.S b.h⟩
theorem Aj (b:bp (bo×bp ax)) (a:ag):cS [] b a=a:=by
 have c:∀a,cI [] b a=a:=λa=>(by have:(a.ids.any λd=>a5 d [])=bw:=(by grind [JZ,a5]);simp only[cI,cu,this,Kt,cq]);cases a with
 |bb e=>grind [H7,List.map_id',cS]
 |_=>exact c _
theorem Ao (c:bp (bo×bp ax)):∀b:bp (bo×ag),kill [] c b=b
 |[]=>rfl
 |(k,a)::b=>by simp_all [fm,Aj,kill]
theorem ze:∀a:bp (bo×aj),del [] a=a
 |[]=>rfl
 |x::a=>by simp_all [kp,bc,a5,del]
theorem k1 (a:ei) (c:bp (bo×bp ax)) (b:bp (bo×ag)):hP a c b=kill a c b:=by
 cases a
 ·exact(Ao c b).symm
 rfl
theorem nm (a:ei) (b:bp (bo×aj)):jP a b=del a b:=by
 cases a
 ·exact(ze b).symm
 rfl
def kf {k:Type} (tt:bp (bC×af)) (f:bp (bo×aj)) (m:bC) (q v:ag) (e:aL->bv k):bv k:=
 match j8 f q with
 |none=>bq
 |some (
  id,p)=>match ah f id,ah tt m with
  |some a,bn o=>match bm a.1 p with
   |none=>bq
   |some b=>bif aD o b then match v with
    |.ref c g=>match ah f c with
     |some l=>bif bB id c then bq else(da l.1 l.2 g b).bind λh=>(hc a.1 a.2 p b h).bind λd=>e ⟨bq,[id,c],[(id,p)],[(id,⟨a.1,d⟩)]⟩
     |none=>bq
    |.app c g i j n=>match eV (τ:=.osl i) b j with
     |some _=>bif bB c id&&g8 g p then(da a.1 a.2 p (.osl i)).bind λr=>(hc a.1 a.2 p (.osl i) (r++j)).bind λd=>e ⟨bq,id::n,[(id,p)],[(id,⟨a.1,d⟩)]⟩ else bq
     |none=>bq
    |v=>match coe b v with
     |some h=>(hc a.1 a.2 p b h).bind λd=>e ⟨bq,[id],[(id,p)],[(id,⟨a.1,d⟩)]⟩
     |none=>bq
   else bq
  |_,_=>bq
theorem EG {q:a} {n:aL->bv a} {tt:bp (bC×af)} (c:kf tt i.h b t e n=bn q) (k:∀o,n o=bn q->v (o.app i)):(qC tt i b t e).K v:=by
 unfold kf at c;unfold qC;split at c
 ·cases c
 rename_i id A u;rw[u];simp only;split at c
 case h_2=>cases c
 rename_i F B w r;obtain⟨O,M⟩:=F;rw[w,r];simp only at c|-;split at c
 ·cases c
 rename_i D z;rw[z];simp only;cases s:aD B D with
 |false=>grind
 |true=>
 rw[s] at c;simp only[bK] at c|-;split at c
 ·rename_i l p;split at c
  case h_2=>cases c
  rename_i E x;obtain⟨P,J⟩:=E;cases d:bB id l with
  |true=>grind
  |false=>
  rw[d] at c;obtain⟨m,f,c⟩:=a1.1 c;obtain⟨j,g,c⟩:=a1.1 c;simp only[x,d,cq];exact⟨(m,j),⟨eH f,hw g⟩,k _ c⟩
 ·rename_i l p N L I;split at c
  case h_2=>cases c
  rename_i m f;cases fL f;cases d:(bB l id&&g8 p A) with
  |false=>grind
  |true=>
  rw[d] at c;simp only[aC] at d;obtain⟨C,y,c⟩:=a1.1 c;obtain⟨j,g,c⟩:=a1.1 c;simp only[dif_pos];exact⟨(C,j),⟨a7 d.1,g8.ok d.2,eH y,hw g⟩,k _ c⟩
 rename_i e G H;split at c
 case h_2=>cases c
 rename_i m f;obtain⟨j,g,c⟩:=a1.1 c;split
 ·grind
 ·grind
 rw[f];exact⟨j,hw g,k _ c⟩
def gF (e:bp (bo×aj)) (a:af) (i:ag):bv (bp a.den):=
 match i with
 |.val (.au _ h) d=>eV (τ:=.osl h) (.osl a) d
 |.aS (.slice bq 0 0)=>bn []
 |.ref id c=>match ah e id with
  |some b=>bif a.pure then da b.1 b.2 c (.osl a) else bq
  |none=>bq
 |.view id c g f=>match ah e id with
  |some b=>bif a.pure then(da b.1 b.2 c (.osl a)).bind λd=>bn ((d.take f).drop g) else bq
  |none=>bq
 |_=>bq
def gY.qQ {c:af} (e:gY c) (b:bp c.den):Prop:=
 match e with
 |.bk f=>f=b
 |.part _ g d=>∃a,g a/\d a=b
 |.bad=>bY
theorem pc {f:bp j.den} (a:gF c j e=bn f):(kj c j e).qQ f:=by
 unfold gF at a;unfold kj;split at a
 ·rename_i p q h;cases fL a;simp only[dif_pos];rfl
 ·cases a;rfl
 ·rename_i id k;split at a
  case h_2=>cases a
  rename_i g d;obtain⟨m,l⟩:=g;simp only[d];cases b:j.pure with
  |false=>grind
  |true=>rw[b] at a;exact⟨f,eH a,br⟩
 ·rename_i id k o n;split at a
  case h_2=>cases a
  rename_i g d;obtain⟨m,l⟩:=g;simp only[d];cases b:j.pure with
  |false=>grind
  |true=>
   rw[b] at a;obtain⟨h,i,a⟩:=a1.1 a;cases a;exact⟨h,eH i,br⟩
 grind
def gY.qQ.to {d:af} {c:gY d} {a:bp d.den} (b:c.qQ a) {g:bo->Prop} {f:bp d.den->aq} {e:aq->Prop} (h:g a.length) (i:e (f a)):(c.to g f).K e:=by
 cases c with
 |bk l=>obtain rfl:l=a:=b;exact⟨(),h,i⟩
 |part n o m=>obtain⟨k,j,rfl⟩:=b;exact⟨k,⟨j,h⟩,i⟩
 |bad=>exact b.elim
def iD {n:Type} (tt:bp (bC×af)) (p:bp (bo×af)) (d:bp (bo×aj)) (b:bo) (o:bC) (q g:ag) (f:aL->bv n):bv n:=
 match ew tt o with
 |none=>bq
 |some i=>
  match q with
  |.ref id []=>match ah d id with
   |some ⟨.osl a,e⟩=>bif aD i a&&bR a.size 1300 then
    match a.pure with
    |true=>(gF d a g).bind λc=>(gB (e.length+c.length)).bind λ_=>f ⟨bn (b,.ref b []),[id,b],[],[(b,⟨.osl a,e++c⟩)]⟩
    |false=>match g with
     |.ref k []=>match ah d k with
      |some r=>match eV (.osl a) r.2 with
       |some c=>bif bB id k then bq else(gB (e.length+cz (α:=a.den) c)).bind λ_=>f ⟨bn (b,.ref b []),[id,k,b],[],[(b,⟨.osl a,List.append (α:=a.den) e c⟩)]⟩
       |none=>bq
      |none=>bq
     |_=>bq
    else bq
   |_=>bq
  |.ref id h=>match ah d id,ah d b with
   |some j,bq=>match bm j.1 h with
    |some (.osl a)=>bif aD i a&&bR a.size 1300&&a.gk then
     (da j.1 j.2 h (.osl a)).bind λe=>(gF d a g).bind λc=>(gB (cz (α:=a.den) e+c.length)).bind λ_=>
      f ⟨bn (b,.app id h a c [b]),[id],[(id,h),(id,[])],[(b,⟨.aY,()⟩),(id,j)]⟩
     else bq
    |_=>bq
   |_,_=>bq
  |.view id [] m l=>match ah d id with
   |some ⟨.osl a,e⟩=>bif aD i a&&bR a.size 1300 then
    (gF d a g).bind λc=>(gB (cz (α:=a.den) ((e.take l).drop m)+c.length)).bind λ_=>f ⟨bn (b,.ref b []),[id,b],[],[(b,⟨.osl a,(e.take l).drop m++c⟩)]⟩
    else bq
   |_=>bq
  |.aS (.slice bq 0 0)=>match ah p b with
   |some (.osl a)=>bif aD i a&&bR a.size 1300 then
    (gF d a g).bind λc=>(gB c.length).bind λ_=>f ⟨bn (b,.ref b []),[b],[],[(b,⟨.osl a,c⟩)]⟩
    else bq
   |_=>bq
  |_=>bq
theorem yf {A:a} {w:aL->bv a} {tt:bp (bC×af)} (c:iD tt l i.h f b e t w=bn A) (m:∀x,w x=bn A->v (x.app i)):(pw tt l i f b e t).K v:=by
 unfold iD at c;unfold pw;split at c
 ·cases c
 rename_i s F;rw[F];simp only;split at c
 ·rename_i id;simp only;split at c
  case h_2=>cases c
  rename_i j u n;rw[n];simp only;cases k:(aD s j&&bR j.size 1300) with
  |false=>grind
  |true=>
  rw[k] at c;simp only[bK] at c|-;split at c
  ·rename_i q;rw[q];obtain⟨p,d,c⟩:=a1.1 c;obtain⟨_,g,c⟩:=a1.1 c;exact(pc d).to (nD g) (m _ c)
  rename_i q;rw[q];split at c
  case h_2=>cases c
  rename_i H;split at c
  case h_2=>cases c
  rename_i M E;obtain⟨V,R⟩:=M;split at c
  case h_2=>cases c
  rename_i p d;cases fL d;cases y:bB id H with
  |true=>grind
  |false=>
  rw[y] at c;obtain⟨_,g,c⟩:=a1.1 c;simp only[E,dif_pos,y,cq];exact⟨(),nD g,m _ c⟩
 ·rename_i id z q;split at c
  case h_2=>cases c
  rename_i L n D;obtain⟨U,S⟩:=L;simp only at c;split at c
  case h_2=>cases c
  rename_i j G;cases k:(aD s j&&bR j.size 1300&&j.gk) with
  |false=>grind
  |true=>
  rw[k] at c;obtain⟨u,r,c⟩:=a1.1 c;obtain⟨p,d,c⟩:=a1.1 c;obtain⟨_,g,c⟩:=a1.1 c;have g:=nD g;have d:=pc d;have r:=eH r;cases z with
  |nil=>grind
  |cons Q z=>
  simp only[n,D,G,k,bK];split
  ·rename_i J o;rw[o] at d;obtain rfl:J=p:=d;exact⟨u,⟨r,g⟩,m _ c⟩
  ·rename_i T ad N o;rw[o] at d;obtain⟨I,B,rfl⟩:=d;exact⟨(u,I),⟨r,B,g⟩,m _ c⟩
  rename_i o;rw[o] at d;exact d.elim
 ·rename_i id P O;simp only;split at c
  case h_2=>cases c
  rename_i j u n;rw[n];simp only;cases k:(aD s j&&bR j.size 1300) with
  |false=>grind
  |true=>
  rw[k] at c;simp only[bK] at c|-;obtain⟨p,d,c⟩:=a1.1 c;obtain⟨_,g,c⟩:=a1.1 c;exact(pc d).to (nD g) (m _ c)
 ·simp only;split at c
  case h_2=>cases c
  rename_i j C;rw[C];simp only;cases k:(aD s j&&bR j.size 1300) with
  |false=>grind
  |true=>
  rw[k] at c;simp only[bK] at c|-;obtain⟨p,d,c⟩:=a1.1 c;obtain⟨_,g,c⟩:=a1.1 c;exact(pc d).to (nD g) (m _ c)
 grind
def i7 (d:bp (bo×af)) (c:bp (bo×aj)) (a:bo) (h:ag):bv aL:=
 match h with
 |.ref id []=>match ah c id with
  |some b=>bn ⟨bn (a,.ref a []),[id,a],[],[(a,b)]⟩
  |none=>bq
 |.ref id g=>bif bB id a then bq else bn ⟨bn (a,.ref id g),[a],[],[]⟩
 |.view id [] f e=>match ah c id with
  |some ⟨.osl b,i⟩=>bn ⟨bn (a,.ref a []),[id,a],[],[(a,⟨.osl b,(i.take e).drop f⟩)]⟩
  |_=>bq
 |.aS (.slice bq 0 0)=>match ah d a with
  |some (.osl b)=>bn ⟨bn (a,.ref a []),[a],[],[(a,⟨.osl b,[]⟩)]⟩
  |_=>bq
 |_=>bq
theorem yo {d:aL} (a:i7 l i.h f e=bn d) (c:v (d.app i)):(py l i f e).K v:=by
 unfold i7 at a;unfold py;split at a
 ·split at a
  ·rename_i k b;cases a;simp only[b];exact c
  grind
 ·rename_i id j m;cases g:bB id f with
  |true=>grind
  |false=>
  rw[g] at a;cases a;cases j with
  |nil=>grind
  |cons n j=>simp only[g,cq];exact c
 ·split at a
  ·rename_i k o b;cases a;simp only[b];exact c
  grind
 ·split at a
  ·rename_i k b;cases a;simp only[b];exact c
  grind
 grind
section
section
variable {E:cG} {C:a6} {st:aq} {a:Act} {w w':bz} {I:aW} {rt:bo->ea} {fp:bo->ei} {o:bJ} {Q:aq->Prop}
def ba.own {S:ei} {t:aj} {cs:ea} {f:ei} {v:Value} {next:Act->bz->Prop} {u:bU->Act->bz->Prop} (A:o.dst=bn n) (F:C.ok n) (l:aK C st a.tmps w I rt fp) (J:∀r k w',Q r->k.defers=a.defers->cV C r k.tmps w'->next k w') (D:n∈S\/ah st.h n=bq) (M:(bF a.eval o).run E.P w=.ok (.value v) w') (c:c1 w w') (N:v=aN t.1 cs) (L:al (az I C.B) w' t.1 cs t.2 f) (G:f.Nodup) (i:∀b∈f,(w.heap.size<=b/\b<w'.heap.size)\/∃q∈S,∃R,ah st.h q=bn R/\b∈fp q) (K:Q ⟨(n,.ref n [])::kill S [] st.g,(n,t)::del S st.h⟩):o.wp E.P a w next u:=by
 have j:=l.il (hE.one (st:=st) (C:=C) (rt:=rt) (w':=w') (I':=I) (S:=S) (d:=n) (t:=t) (cs:=cs) (f:=f) D c.size c.os c.tape c.output (λb i _=>c.heap b i) (λb i=>(Jq (c.heap b i)).2) (λ_ e=>e) (λ_ e=>.inl e) L G (λb z=>by
  rcases i b z with⟨x,y⟩|⟨p,H,s,j,m⟩
  ·exact⟨λe=>by have:=l.ib b (.inl e);omega,y,.inl x⟩
  obtain⟨O,T,aA,aH⟩:=(l.tree p s j).2.2 b m;exact⟨O,gv aA c.size,.inr ⟨p,H,s,j,m⟩⟩))
 unfold cc;rw[M];show next (a.put o.dst v) w'
 rw[A];refine J _ _ _ K br ⟨_,_,_,j.put F (av:=.ref n []) ?_⟩;rw[N];refine .ref (t:=t) (loc:=bq) (by rw[fS,aU,bc br];rfl) ?_;rw[qd];exact HZ
def nM (e:bp (bo×aj)) (a:af):ag->bv (aj×ei)
 |.val d b=>bif aD a d then bn (⟨d,b⟩,[]) else bq
 |.aS f=>match eZ a f.cells.toList with
  |some b=>bn (⟨a,b⟩,[])
  |none=>bq
 |.ref id []=>match ah e id with
  |some c=>bif aD a c.1 then bn (c,[id]) else bq
  |none=>bq
 |_=>bq
theorem wT {h:aZ} (m:∀id t,ah c id=bn t->al h w t.1 (rt id) t.2 (fp id)) {a:af} (j:bi s a b) (i:aJ h w c rt fp e y) {t:aj} {ids:ei} (d:nM c a e=bn (t,ids)):al h w t.1 y.cells.toList t.2 (ids.map fp).flatten/\t.1.size=a.size/\∀id∈ids,∃p,ah c id=bn p:=by
 unfold nM at d;split at d
 ·rename_i r q;cases f:aD a r with
  |false=>grind
  |true=>
   rw[f] at d;cases d;cases i with|val g=>
   rw[hS (j.lay f) g.len g.one];grind [J0]
 ·rename_i v;split at d
  ·rename_i q u;cases d;cases i;grind [i9]
  grind
 ·rename_i id;split at d
  ·rename_i o k;cases f:aD a o.1 with
   |false=>grind
   |true=>
    rw[f] at d;cases d;cases i with|ref l n=>
    rw[k] at l;cases l;obtain⟨rfl,rfl,rfl⟩:=cb.1 n;have g:=m id _ k;rw[hS (j.lay f) g.len g.one];grind [Ju,J0]
  grind
 grind
def hH (e:bp (bo×aj)) (d:bH->ag) (g:bp (bo×bH)):af->bo->bv (aj×ei)
 |.pr a h,f=>
  match(match g9 g f with
   |none=>match hd a with
    |some i=>bn ((⟨a,i⟩:aj),([]:ei))
    |none=>bq
   |some b=>nM e a (d b)),hH e d g h (f+1) with
  |some b,bn c=>bn (⟨.pr b.1.1 c.1.1,(b.1.2,c.1.2)⟩,b.2++c.2)
  |_,_=>bq
 |.nil,_=>bn (⟨.nil,()⟩,[])
 |_,_=>bq
theorem wd {p:bQ} {g:aZ} {b:bp (bo×aj)} (z:∀id t,ah b id=bn t->al g w t.1 (rt id) t.2 (fp id)) {m:bH->ag} {h:bH->Value} (y:∀c,aJ g w b rt fp (m c) (h c)) {parts:bp (bo×bH)} {cells:ea}:∀{u:af} {n:bo} {r:bp cA} {off:bo} {zs:ea} {t:aj} {ids:ei},fd p u r off zs->hH b m parts u n=bn (t,ids)->cells.length=off+u.size->(∀d k e,cR u d=bn (k,e)->(∀c,g9 parts (n+d)=bn c->(h c).cells.size=e.size/\(cells.drop (off+cL u d)).take e.size=(h c).cells.toList)/\(g9 parts (n+d)=bq->(cells.drop (off+cL u d)).take e.size=(zs.drop (cL u d)).take e.size))->al g w t.1 (cells.drop off) t.2 (ids.map fp).flatten/\t.1.size=u.size/\∀id∈ids,∃u,ah b id=bn u
 |.pr a q,n,E::O,off,zs,t,ids,o,f,A,i=>by
  simp only[hH] at f;split at f
  case h_2=>cases f
  rename_i c l j C;cases f;obtain⟨F,s,G,⟨K,S,M,N,aA⟩,v⟩:=o;have x:=i 0 _ a br;simp only[jD,cL,lv] at x;have H:al g w c.1.1 ((cells.drop off).take a.size) c.1.2 (c.2.map fp).flatten/\c.1.1.size=a.size/\∀id∈c.2,∃u,ah b id=bn u:=by
   split at j
   ·rename_i J;split at j
    ·rename_i T D;cases j;obtain⟨L,U,P,Q,_,R⟩:=mQ s D;grind
    grind
   grind [wT]
  have I:=wd z y (parts:=parts) (cells:=cells) (u:=q) (n:=n+1) (off:=off+a.size) (zs:=zs.drop a.size) (t:=l.1) (ids:=l.2) v C (by grind [cw]) (by
   intro d k e B;have:=i (d+1) (.snd::k) e (by simp[cR,B]);grind [It,cL])
  refine⟨⟨(c.2.map fp).flatten,(l.2.map fp).flatten,aa,?_,?_⟩,by grind [cw],?_⟩
  ·grind
  ·simp_all
  grind
 |.nil,n,[],off,zs,t,ids,o,f,A,i=>by cases f;exact⟨⟨br,by grind [List.drop_eq_nil_iff,cw]⟩,br,aa⟩
 |.pr _ _,_,[],_,_,_,_,b,_,_,_|.nil,_,_::_,_,_,_,_,b,_,_,_=>b.elim
 |.int _,_,_,_,_,_,_,b,_,_,_|.bool,_,_,_,_,_,_,b,_,_,_|.str,_,_,_,_,_,_,b,_,_,_|.au _ _,_,_,_,_,_,_,b,_,_,_|.osl _,_,_,_,_,_,_,b,_,_,_|.ptr _ _,_,_,_,_,_,_,b,_,_,_|.opt _ _,_,_,_,_,_,_,b,_,_,_|.st _,_,_,_,_,_,_,b,_,_,_|.aY,_,_,_,_,_,_,b,_,_,_=>by cases b
theorem we {z:bQ} {h:aZ} {b:bp (bo×aj)} (l:∀id t,ah b id=bn t->al h w t.1 (rt id) t.2 (fp id)) {j:bH->ag} {i:bH->Value} (k:∀e,aJ h w b rt fp (j e) (i e)) {q:bp (bo×bH)}:∀{u:af} {n:bo} {B:bp cA} {p:bo} {y:ea} {t:aj} {ids:ei},fd z u B p y->hH b j q u n=bn (t,ids)->∀d s g,cR u d=bn (s,g)->∀e,g9 q (n+d)=bn e->(i e).cells.size=g.size
 |.pr a A,n,I::P,p,y,t,ids,E,f,d,s,g,c,e,m=>by
  simp only[hH] at f;split at f
  case h_2=>cases f
  rename_i v x o G;obtain⟨J,C,K,⟨L,Q,N,O,aA⟩,D⟩:=E;cases d with
  |zero=>
   simp only[cR,aV,eT] at c;obtain⟨_,rfl⟩:=c;rw[jD] at m;rw[m] at o;obtain⟨H,M,_⟩:=wT (t:=v.1) (ids:=v.2) l C (k e) o;have:=H.len;grind
  |succ d=>
   simp only[cR] at c;split at c
   ·rename_i r F;simp only[aV,eT] at c;obtain⟨_,rfl⟩:=c;exact we l k (u:=A) (n:=n+1) (t:=x.1) (ids:=x.2) D G d r.1 r.2 F e (by rwa[(U:n+1+d=n+(d+1))])
   grind
 |.pr _ _,_,[],_,_,_,_,b,_,_,_,_,_,_,_=>b.elim
 |.nil,_,_,_,_,_,_,_,_,_,_,_,c,_,_=>by cases c
 |.int _,_,_,_,_,_,_,b,_,_,_,_,_,_,_|.bool,_,_,_,_,_,_,b,_,_,_,_,_,_,_|.str,_,_,_,_,_,_,b,_,_,_,_,_,_,_|.au _ _,_,_,_,_,_,_,b,_,_,_,_,_,_,_|.osl _,_,_,_,_,_,_,b,_,_,_,_,_,_,_|.ptr _ _,_,_,_,_,_,_,b,_,_,_,_,_,_,_|.opt _ _,_,_,_,_,_,_,b,_,_,_,_,_,_,_|.st _,_,_,_,_,_,_,b,_,_,_,_,_,_,_|.aY,_,_,_,_,_,_,b,_,_,_,_,_,_,_=>by cases b
theorem yF (a0:o.op=.build b r) (F:gP E.tt b=bn z) (d4:aD z j=bu\/z=j) (R:hm r.toList 0=bu) (B:∀d∈r.toList,b3 d.1 (db j)=bu) (O:∀e l c,cR j e=bn (l,c)->∀f,g9 r.toList e=bn f->(a.eval f).cells.size=c.size):∃h g p,fd E.P j h 0 g/\(bF a.eval o).run E.P w=.ok (.value (.agg p)) w/\p.toList.length=j.size/\(∀e l c,cR j e=bn (l,c)->(∀f,g9 r.toList (0+e)=bn f->(a.eval f).cells.size=c.size/\(p.toList.drop (0+cL j e)).take c.size=(a.eval f).cells.toList)/\(g9 r.toList (0+e)=bq->(p.toList.drop (0+cL j e)).take c.size=(g.drop (cL j e)).take c.size)):=by
 obtain⟨m,h,g,S,d0,T,V,q,d1⟩:∃m h g,E.P.info? b=some m/\m.size=j.size/\m.zero=some (.agg g)/\E.P.underlying b=some (.struct h)/\fd E.P j h.toList 0 g.toList/\g.size=j.size:=by
  unfold gP at F;split at F
  ·rename_i eq am;cases F;obtain⟨_,m,h,g,d6,d7,_,aH,cP,ka,iM⟩:=E.ok b _ am;grind [J0,fd.lay]
  grind
 have G:=run_places (P:=E.P) w j h.toList 0 g.toList q;simp only[hL] at G;generalize d3:((ct (db j)).map λn=>(cL j n,match cR j n with|some d=>d.2.size|none=>0))=I at G;have v:∀n l c,cR j n=bn (l,c)->n<db j->I.toArray[n]?=bn (cL j n,c.size):=ab;obtain⟨p,ci,d8,co,cs⟩:=oI (λm=>I.toArray[m]?) (r.toList.map λd=>(d.1,a.eval d.2)) g (by
  intro d x;obtain⟨k,C,rfl⟩:=c9.1 x;have t:k.1<db j:=c5 (B k C);obtain⟨l,c,i⟩:=j6 q k.1 t;refine⟨_,_,v _ _ _ i t,O _ _ _ i k.2 ?_,by simp_all [nt]⟩;grind [sh]) (by
  rw[List.pairwise_map];refine(si R).imp_of_mem ?_;intro d J x bl t ce cv d5 d9 ak L;have A:d.1<db j:=c5 (B d x);have Q:J.1<db j:=c5 (B J bl);obtain⟨dl,ds,s⟩:=j6 q d.1 A;obtain⟨el,em,N⟩:=j6 q J.1 Q;rw[v _ _ _ s A] at ak;rw[v _ _ _ N Q] at L;cases ak;cases L;exact .inl (l1 s N t))
 have bs:p.toList.length=j.size:=ab;refine⟨h.toList,g.toList,p,q,?_,bs,?_⟩
 ·have a4:(Jh (λf=>(f.fst,a.eval f.snd)) r).toList=r.toList.map λd=>(d.1,a.eval d.2):=aa;have a3:(h.mapM λM=>do Ih (M.offset,<-eu M.type):Sem (bN dS)).run E.P w=.ok I.toArray w:=by
   rw[JI,Sem.run_map,G];rfl
  have H:(cr b).run E.P w=.ok (.agg g) w:=(by simp[cr,cC,S,T]);simp only[bF,a0,Instr.build,bP,H,b1 V,bT,a3,a4,JC,ci];rfl
 intro e l c i;have an:e<db j:=rX i;simp only[hL];have d2:=nt i;refine⟨λf D=>?_,λD=>?_⟩
 ·have ap:=mi D;have H:=O e l c i f D;refine⟨H,?_⟩;apply iw;intro y;rcases gw y c.size with u|u
  ·obtain⟨K,bx⟩:∃K,(a.eval f).cells[y]?=some K:=⟨_,n5 U⟩;have:=cs (e,a.eval f) (c9.2 ⟨(e,f),ap,br⟩) _ _ (v _ _ _ i an) y K bx;grind
  grind
 apply iw;intro y;rcases gw y c.size with u|u
 ·rw[lw u,lw u,ks,ks];simp only[pd];refine co _ ?_;intro d x ce cv ak;obtain⟨k,C,rfl⟩:=c9.1 x;have av:=sv D k C;have A:k.1<db j:=c5 (B k C);obtain⟨dl,ds,s⟩:=j6 q k.1 A;rw[v _ _ _ s A] at ak;cases ak;rcases JA av with t|ad
  ·have:=l1 s i t;omega
  have:=l1 i s ad;omega
 grind
def aK.r0 {t:dY} (d:aK C st t w I rt fp):∀{a:ei},a.Nodup->(∀id∈a,∃b,ah st.h id=bn b)->(a.map fp).flatten.Nodup
 |[],_,_=>by simp
 |i::a,r,e=>by obtain⟨k,l⟩:=gW.1 r;obtain⟨b,f⟩:=e i aa;simp only[fm,hA];refine gI.2 ⟨(d.tree i b f).2.1,aK.r0 d l (λid x=>e id ab),λj m v o c=>?_⟩;subst c;obtain⟨y,q,n⟩:=gV.1 o;obtain⟨g,p,rfl⟩:=c9.1 q;obtain⟨u,s⟩:=e g ab;exact d.dis i g b u f s (λc=>k (c▸p)) j m n
theorem AV (a:f∈(h.map fp).flatten):∃id∈h,f∈fp id:=by grind
def kJ {k:Type} (tt:bp (bC×af)) (m:bp (bo×af)) (e:bp (bo×aj)) (h:bH->ag) (a:bo) (l:bC) (c:bp (bo×bH)) (g:aL->bv k):bv k:=
 match gP tt l with
 |none=>bq
 |some f=>match ah m a with
  |some (.st j)=>bif aD f j&&(hm c 0&&c.all (λi=>b3 i.1 (db j))) then match ah e a,hH e h c j 0 with
   |none,bn (b,d)=>bif fA d then g ⟨bn (a,.ref a []),d,[],[(a,⟨.st b.1,b.2⟩)]⟩ else bq
   |_,_=>bq
   else bq
  |_=>bif hm c 0&&c.all (λi=>b3 i.1 (db f)) then match jk h c f 0 with
   |some b=>g ⟨bn (a,.val (.st b.1) b.2),[],[],[]⟩
   |none=>match ah e a,hH e h c f 0 with
    |none,bn (b,d)=>bif fA d then g ⟨bn (a,.ref a []),d,[],[(a,⟨.st b.1,b.2⟩)]⟩ else bq
    |_,_=>bq
   else bq
theorem tS {G:Type} {D:G} {q:aL->bv G} (V:o.op=.build b r) (O:o.dst=bn n) (P:C.ok n) (v:gP E.tt b=bn z) (A:aD z j=bu\/z=j) (p:(hm r.toList 0&&r.toList.all (λm=>b3 m.1 (db j)))=bu) (e:(match ah st.h n,hH st.h (aw st.g) r.toList j 0 with
  |none,bn (c,d)=>bif fA d then q ⟨bn (n,.ref n []),d,[],[(n,⟨.st c.1,c.2⟩)]⟩ else bq
  |_,_=>bq)=bn D)
 (ad:∀s,q s=bn D->Q (s.app st)):ba E C o st Q:=by
 split at e
 case h_2=>cases e
 rename_i c d R l;cases y:fA d with
 |false=>grind
 |true=>
 rw[y] at e;simp only[aC,cX] at p;obtain⟨H,J⟩:=p;rintro a w ⟨I,rt,fp,i⟩ next a4 T
 have x:∀id c,ah st.h id=bn c->al (az I C.B) w c.1 (rt id) c.2 (fp id):=λid c l=>(i.tree id c l).1;obtain⟨K,a0,F,M,am,ce,N⟩:=yF (a:=a) (w:=w) V v A H J (by
  obtain⟨K,a0,_,m⟩:=gP.ok v;intro ap av a3 an k bx;exact we x (λk=>i.aw k) (A.elim (λe=>fd.lay e m) (λe=>e▸m)) l ap av a3 an k (by rwa[hL]))
 obtain⟨u,bs,L⟩:=wd x (λk=>i.aw k) (cells:=F.toList) M l U N;rw[lv] at u;refine ba.own (S:=d) (t:=⟨.st c.1,c.2⟩) (cs:=F.toList) (f:=(d.map fp).flatten) O P i T (.inr R) am (c1.refl w) rfl u (i.r0 (fA.ok y) L) (λbl p=>?_) ?_
 ·grind
 have:=ad _ e;rw[show(aL.mk (bn (n,.ref n [])) d [] [(n,⟨.st c.1,c.2⟩)]).app st=⟨(n,.ref n [])::kill d [] st.g,(n,⟨.st c.1,c.2⟩)::del d st.h⟩ by
  show aq.mk ((n,_)::hP d [] st.g) ([_]++jP d st.h)=_;rw[k1,nm];rfl] at this
 omega
theorem yt {v:Type} {s:v} {p:aL->bv v} (k:o.op=.build b r) (i:o.dst=bn f) (j:C.ok f) (a:kJ E.tt l st.h (aw st.g) f b r.toList p=bn s) (m:∀q,p q=bn s->Q (q.app st)):ba E C o st Q:=by
 unfold kJ at a;split at a
 ·cases a
 rename_i t d;split at a
 ·rename_i u x;cases c:(aD t u&&(hm r.toList 0&&r.toList.all (λn=>b3 n.1 (db u)))) with
  |false=>grind
  |true=>
  rw[c] at a;simp only[bK] at a;have e:=c;rw[aC] at e;exact tS k i j d (.inl e.1) e.2 a m
 cases c:(hm r.toList 0&&r.toList.all (λn=>b3 n.1 (db t))) with
 |false=>grind
 |true=>
 rw[c] at a;simp only[bK] at a;split at a
 ·rename_i y w;refine H1 (an:=[]) i j ?_;rw[k];simp only[eA,oq,d,c,bK,w];exact m _ a
 exact tS k i j d (.inr br) c a m
def lL {i:Type} (tt:bp (bC×af)) (f:bp (bo×af)) (g:bp (bo×aj)) (a:bo) (j:bC) (d:ag) (b:aL->bv i):bv i:=
 match ah tt j,ah g a with
 |some h,bq=>match d with
  |.val e d=>bif aD h e then match ah f a with
   |some (.ptr .aE _)=>b ⟨bn (a,.val (.ptr .aE e) (bn d)),[],[],[]⟩
   |_=>b ⟨bn (a,.ref a []),[],[],[(a,⟨.opt 0 e,d⟩)]⟩
   else bq
  |.ref id []=>match ah g id with
   |some c=>bif aD h c.1 then match ah f a with
    |some (.ptr .aE _)=>bif im c.1 then b ⟨bn (a,.c0 (.ref id [])),[],[],[]⟩ else bq
    |_=>b ⟨bn (a,.ref a []),[id],[],[(a,⟨.opt 0 c.1,c.2⟩)]⟩
    else bq
   |none=>bq
  |_=>bq
 |_,_=>bq
theorem yA {d4:Type} {d1:d4} {ce:aL->bv d4} (N:o.op=.box b m) (L:o.dst=bn n) (M:C.ok n) (d:lL E.tt l st.h n b (aw st.g m) ce=bn d1) (O:∀cv,ce cv=bn d1->Q (cv.app st)):ba E C o st Q:=by
 unfold lL at d;split at d
 case h_2=>cases d
 rename_i q K ds;split at d
 ·rename_i V d3 y;cases e:aD q V with
  |false=>grind
  |true=>
  rw[e] at d;simp only[bK] at d;split at d
  ·rintro a w ⟨I,rt,fp,i⟩ next ci D
   have k:=i.aw m;rw[y] at k;have z:=(E.ok b q K).lay e;generalize G:a.eval m=J at k;cases k with|val T=>
   rename_i U;have s:∀r c,az I C.B r c->aP w (w.alloc (.cells U.toArray b)) c:=λr c e=>.of_heap ((ek w _).heap c (i.ib c (hq e)));have bl:Yields E C st a w I rt fp o (λu H=>Q ⟨(n,u)::st.g,H++st.h⟩):=by
    refine⟨.pointer (bn ⟨w.heap.size,0,bq⟩),w.alloc (.cells U.toArray b),λc=>I c\/c=w.heap.size,λ_=>[],λ_=>[],.val (.ptr .aE V) (bn d3),[],?_,ek w _,λ_ d=>.inl d,?_,.nil,?_,O _ d⟩
    ·simp[bF,N,G,Jg,newVar,cB,hS z T.len T.one]
    ·rintro c (d|rfl)
     ·grind
     simp_all
    refine .val (τ:=.ptr .aE V) (x:=bn d3) (cs:=[.pointer (bn ⟨w.heap.size,0,bq⟩)]) ⟨br,w.heap.size,0,U,br,.inr br,T.len,IZ (λd8 J d6=>by grind),?_⟩;refine T.mono (λr c e=>⟨?_,s r c e⟩) aa;cases r
    ·exact .inl e
    exact e.imp .inl (λd=>d)
   exact bl.wp i L M (λu H ad w' a0 am a3=>D _ ad w' a0 am a3)
  refine H1 (an:=[]) L M ?_;rw[N];simp only[eA,ot,K,ds,y,e,bK];exact O _ d
 ·rename_i id y;split at d
  case h_2=>cases d
  rename_i j P;cases e:aD q j.1 with
  |false=>grind
  |true=>
  rw[e] at d;simp only[bK] at d;split at d
  ·cases a4:im j.1 with
   |false=>rw[a4] at d;cases d
   |true=>
   rw[a4,bK] at d;rintro a w ⟨I,rt,fp,i⟩ next ci D
   have k:=i.aw m;rw[y] at k;obtain⟨p,d2,bx⟩:=i.tree id j P;have z:=(E.ok b q K).lay e;generalize G:a.eval m=J at k;have d7:=k;cases k with|ref F av=>
   rw[P] at F;cases F;obtain⟨rfl,rfl,rfl⟩:=cb.1 av;obtain⟨ak,d5⟩:=iG.one a4;have d0:=p.len;rw[ak] at d0;obtain⟨co,dl⟩:=kt.1 d0;have s:∀c,c<w.heap.size->aP w (w.alloc (.cells (rt id).toArray b)) c:=λc e=>.of_heap ((ek w _).heap c e);have bl:Yields E C st a w I rt fp o (λu H=>Q ⟨(n,u)::st.g,H++st.h⟩):=by
    refine⟨.pointer (bn ⟨w.heap.size,0,bq⟩),w.alloc (.cells (rt id).toArray b),λc=>I c\/c=w.heap.size,rt,fp,.c0 (.ref id []),[],?_,ek w _,λ_ d=>.inl d,?_,.nil,?_,O _ d⟩
    ·simp[bF,N,G,Jg,newVar,cB,hS z p.len p.one]
    ·rintro c (d|rfl)
     ·exact .inl d
     exact .inr ⟨eL _,aa⟩
    have ap:aJ (az ⟨λc=>I c\/c=w.heap.size,I.t⟩ C.B) (w.alloc (.cells (rt id).toArray b)) ([]++st.h) (bg [] rt rt) (bg [] fp fp) (.ref id []) (aN j.1 (rt id)):=by
     refine d7.mono (λr c A=>⟨?_,s c (i.ib c (hq A))⟩) (λbs q R=>⟨(i.tree bs q R).1,λc e=>s c ((i.tree bs q R).2.2 c e).2.2.1⟩) (λbs q R=>⟨R,br,br⟩);cases r
     ·exact .inl A
     exact A.imp .inl (λd=>d)
    rw[dl] at ap|-;rw[d5] at ap;refine .c0 (v:=co) (.inr br) ?_ (p.one co (by rw[dl];simp)) ap;rw[World.cell?_alloc_new];rfl
   exact bl.wp i L M (λu H ad w' a0 am a3=>D _ ad w' a0 am a3)
  rintro a w ⟨I,rt,fp,i⟩ next ci D
  have k:=i.aw m;rw[y] at k;obtain⟨p,d2,bx⟩:=i.tree id j P;have z:=(E.ok b q K).lay e;generalize G:a.eval m=J at k;cases k with|ref F av=>
  rw[P] at F;cases F;obtain⟨rfl,rfl,rfl⟩:=cb.1 av;have s:∀c,c<w.heap.size->aP w (w.alloc (.cells (rt id).toArray b)) c:=λc e=>.of_heap ((ek w _).heap c e);have d9:al (az I C.B) (w.alloc (.cells (rt id).toArray b)) j.1 (rt id) j.2 (fp id):=p.mono (λr c e=>⟨e,s c (i.ib c (hq e))⟩) (λc e=>s c (bx c e).2.2.1);refine ba.own (S:=[id]) (t:=⟨.opt 0 j.1,j.2⟩) (cs:=[.pointer (bn ⟨w.heap.size,0,bq⟩)]) (f:=w.heap.size::fp id) (v:=.pointer (bn ⟨w.heap.size,0,bq⟩)) (w':=w.alloc (.cells (rt id).toArray b)) L M i D (.inr ds) ?_ (ek w _) rfl ⟨w.heap.size,0,fp id,rt id,br,br,p.len,IZ (λd8 J d6=>by grind),IA (by simp[p.len]),d9,λd=>absurd rfl d⟩ (gW.2 ⟨λA=>Ku _ (bx _ A).2.2.1,d2⟩) ?_ ?_
  ·simp[bF,N,G,Jg,newVar,cB,hS z p.len p.one]
  ·intro c e;rcases c2.1 e with rfl|e
   ·simp_all
   grind
  have:=O _ d;rw[show(aL.mk (bn (n,.ref n [])) [id] [] [(n,⟨.opt 0 j.1,j.2⟩)]).app st=⟨(n,.ref n [])::kill [id] [] st.g,(n,⟨.opt 0 j.1,j.2⟩)::del [id] st.h⟩ from rfl] at this;omega
 grind
def sI (a:af) (b:ag):bv a.den:=match a with
 |.osl _=>match b with
  |.aS (.slice bq 0 0)=>bn []
  |_=>bq
 |_=>bq
def Bf {b:aZ} {w:bz} {rt:bo->ea} {fp:bo->ei} (f:aJ b w c rt fp e y) {d:j.den} (a:sI j e=bn d):al b w j y.cells.toList d []:=by
 unfold sI at a;split at a
 ·split at a
  ·cases a;cases f;exact⟨bq,0,br,.inl ⟨br,br,br,br⟩⟩
  cases a
 cases a
def lP (c:bp (bo×aj)) (b:af) (x:ag):bv (b.den×ei):=
 match x with
 |.ref id []=>match ah c id with
  |some d=>match eV b d.2 with
   |some a=>bn (a,[id])
   |none=>bq
  |none=>bq
 |x=>match coe b x with
  |some a=>bn (a,[])
  |none=>(sI b x).map λa=>(a,[])
def lQ (b:bp (bo×aj)) (a:af):bp ag->bv (bp a.den×dV)
 |[]=>bn ([],[])
 |x::e=>match lP b a x,lQ b a e with
  |some d,bn c=>bn (d.1::c.1,d.2::c.2)
  |_,_=>bq
theorem yP {d:aZ} (p:∀id j,ah c id=bn j->al d w j.1 (rt id) j.2 (fp id)) (n:bi E.P j b) (i:aJ d w c rt fp e y) {l:j.den} (a:lP c j e=bn (l,h)):al d w j y.cells.toList l (h.map fp).flatten/\∀id∈h,∃t,ah c id=bn t:=by
 unfold lP at a;split at a
 ·rename_i id;split at a
  case h_2=>cases a
  rename_i u f;split at a
  case h_2=>cases a
  rename_i v r;cases a;obtain⟨z,e⟩:=u;have o:=fL r;cases o;cases i with|ref g q=>
  rw[f] at g;cases g;obtain⟨rfl,rfl,rfl⟩:=cb.1 q;have k:=p id _ f;rw[hS n k.len k.one];grind
 split at a
 ·grind [rr]
 obtain⟨x,s,m⟩:=cF.1 a;cases m;exact⟨Bf i s,aa⟩
theorem uc {e:bp (bo×aj)} {c:af}:∀{b:bp ag} {xs:bp c.den} {is:dV},lQ e c b=bn (xs,is)->xs.length=b.length/\is.length=b.length/\∀(d:bo) (h:c.den),xs[d]?=bn h->∃(y:ag) (f:ei),b[d]?=bn y/\is[d]?=bn f/\lP e c y=bn (h,f)
 |[],xs,is,a=>by cases a;grind
 |y::b,xs,is,a=>by
  simp only[lQ] at a;split at a
  ·rename_i n g m i;cases a;obtain⟨j,k,l⟩:=uc (xs:=g.1) (is:=g.2) i;grind
  grind
def kL {i:Type} (tt:bp (bC×af)) (k:bp (bo×af)) (f:bp (bo×aj)) (e:bH->ag) (a:bo) (j:bC) (g:bo) (c:bp (bo×bH)) (d:aL->bv i):bv i:=
 match ew tt j,ah f a with
 |some h,bq=>
  match(match ah k a with|some (.osl t)=>t|_=>h) with
  |t=>bif aD h t&&bR t.size 2000&&bR g 1000&&mE c 0&&bB c.length g then
   match oz t (c.map λb=>e b.2) with
   |some l=>d ⟨bn (a,.ref a []),[],[],[(a,⟨.osl t,l⟩)]⟩
   |none=>match lQ f t (c.map λb=>e b.2) with
    |some b=>bif fA b.2.flatten then d ⟨bn (a,.ref a []),b.2.flatten,[],[(a,⟨.osl t,b.1⟩)]⟩ else bq
    |none=>bq
  else bq
 |_,_=>bq
theorem yD {eq:Type} {d9:eq} {bs:aL->bv eq} {p:bo} (d1:o.op=.buildSlice b n r) (cv:o.dst=bn p) (dl:C.ok p) (i:kL E.tt l st.h (aw st.g) p b n r.toList bs=bn d9) (K:∀N,bs N=bn d9->Q (N.app st)):ba E C o st Q:=by
 unfold kL at i;split at i
 case h_2=>cases i
 rename_i q co ds;generalize u:(match ah l p with|some (.osl c)=>c|_=>q)=c at i;simp only at i;cases e:(aD q c&&bR c.size 2000&&bR n 1000&&mE r.toList 0&&bB r.toList.length n) with
 |false=>grind
 |true=>
 rw[e] at i;simp only[bK] at i;split at i
 ·rename_i y d6;refine H1 (an:=l) cv dl ?_;rw[d1];simp only[eA,ni,co,ds];cases G:ah l p with
  |none=>
   rw[G] at u;simp only at u;subst u;simp only[e,bK,d6];exact K _ i
  |some j=>
   rw[G] at u;cases j<;>(simp only at u;subst u;simp only[e,bK,d6];exact K _ i)
 split at i
 case h_2=>cases i
 rename_i j d3;obtain⟨y,m⟩:=j;cases av:fA m.flatten with
 |false=>grind
 |true=>
 rw[av] at i;rintro a w ⟨I,rt,fp,A⟩ next gs f9
 have f2:∀id c,ah st.h id=bn c->al (az I C.B) w c.1 (rt id) c.2 (fp id):=λid c u=>(A.tree id c u).1;simp only[aC] at e;obtain⟨⟨⟨⟨fn,V⟩,ad⟩,M⟩,bx⟩:=e;have V:=c5 V;have ad:=c5 ad;have bx:r.toList.length=n:=a7 bx;obtain⟨d8,T,_,fz,fT⟩:=ew.ok co;have J:=fT.lay fn;obtain⟨a4,gt,cP,_⟩:=J.info;have it:=J.pos;obtain⟨fs,ce,ci⟩:=uc d3;simp only[jA] at fs ce;have gf:y.length=n:=U;have io:n*c.size<=16777216:=(by have:n*c.size<=1000*2000:=Jf ad V;omega);have am:∀(d:bo) (j:bo×bH),r.toList[d]?=bn j->∃(x:c.den) (s:ei),y[d]?=bn x/\m[d]?=bn s/\al (az I C.B) w c (a.eval j.2).cells.toList x (s.map fp).flatten/\∀id∈s,∃q,ah st.h id=bn q:=(by intro d j D;have f6:d<y.length:=ab;obtain⟨mc,s,ak,hp,O⟩:=ci d y[d] aa;rw[gH,D] at ak;simp only[IM,aV] at ak;subst ak;obtain⟨i2,i3⟩:=yP f2 J (A.aw j.2) O;grind);have ap:∀id∈m.flatten,∃q,ah st.h id=bn q:=by
  intro id R;obtain⟨L,G,ic⟩:=gV.1 R;obtain⟨d,D,rfl⟩:=kw.1 G;have F:r.toList[d]?=bn (r.toList[d]'(by omega)):=fq _
  grind
 obtain⟨d7,f4,f5⟩:∃em:dY,(n*c.size=0->em=#[])/\(n*c.size≠0->∃H,(cr T).run E.P w=.ok H w/\em=H.cells):=by
  by_cases z:n*c.size=0
  ·simp_all
  obtain⟨H,_,gl⟩:=bi.r8 J;exact⟨H.cells,λi=>absurd i z,λ_=>⟨H,by simp[cr,cC,cP.info,gl a4 cP.info],br⟩⟩
 obtain⟨bl,el,lb,le,go⟩:=oI (λa4=>bn (a4*c.size,c.size)) (r.toList.map λj=>(j.1,a.eval j.2)) ((Array.range (n*c.size)).map (d7[· %d7.size]!)) (by
  intro j K;obtain⟨kg,gc,rfl⟩:=c9.1 K;obtain⟨d,D,rfl⟩:=kw.1 gc;have F:r.toList[d]?=bn r.toList[d]:=aa;obtain⟨x,_,_,_,a3,_⟩:=am d _ F;have N:=kc M d _ F;have:(d+1)*c.size<=n*c.size:=hY _ U;rw[ix,H4] at this;refine⟨_,_,br,by have:=a3.len;omega,?_⟩;grind) (by
  rw[List.pairwise_iff_getElem];intro d L D G f6 jp lk kd lt ak O;simp only[List.getElem_map,aV,eT] at ak O;simp only[jA] at D G;have ft:=kc M d r.toList[d] aa;have fx:=kc M L r.toList[L] aa;obtain⟨rfl,rfl⟩:=ak;obtain⟨rfl,rfl⟩:=O;left;rw[ft,fx];have:(0+d+1)*c.size<=(0+L)*c.size:=hY _ U;grind)
 have i0:bl.size=n*c.size:=ab;have f0:∀k,k<w.heap.size->aP w (w.alloc (.cells bl T)) k:=λk e=>.of_heap ((ek w _).heap k e);have f1:(m.map λs=>(s.map fp).flatten).flatten=(m.flatten.map fp).flatten:=by
  clear am ap ci av i d3 ce
  induction m with
  |nil=>rfl
  |cons x L i1=>grind
 have f7:∀k∈(m.flatten.map fp).flatten,k<w.heap.size/\∃id∈m.flatten,∃q,ah st.h id=bn q/\k∈fp id:=(by intro k e;obtain⟨id,R,e⟩:=AV e;obtain⟨q,a0⟩:=ap id R;exact⟨((A.tree id q a0).2.2 k e).2.2.1,id,R,q,a0,e⟩);refine ba.own (S:=m.flatten) (t:=⟨.osl c,y⟩) (cs:=[.slice (bn ⟨w.heap.size,0,bq⟩) n n]) (f:=w.heap.size::(m.flatten.map fp).flatten) (v:=.slice (bn ⟨w.heap.size,0,bq⟩) n n) (w':=w.alloc (.cells bl T)) cv dl A f9 (.inr ds) ?_ (ek w _) rfl ?_ (gW.2 ⟨λf8=>Ku _ (f7 _ f8).1,A.r0 (fA.ok av) ap⟩) ?_ ?_
 ·have ge:=J.sizeOf w;have is:¬(16777216<n*c.size):=U;have d2:(Jh (λx=>(x.fst,a.eval x.snd)) r).toList=r.toList.map λj=>(j.1,a.eval j.2):=aa;simp only[bF,d1,Instr.buildSlice,bP,b1 fz,bT,ge];rw[a8 U];by_cases z:n*c.size=0
  ·rw[bc z];obtain rfl:=f4 z;rw[d2];simp only[bP,b9,bT,el,cB,newObj];rfl
  rw[a8 z];obtain⟨H,gh,rfl⟩:=f5 z;rw[d2];simp only[bP,b9,bT,gh,el,cB,newObj];rfl
 ·refine⟨bn ⟨w.heap.size,0,bq⟩,n,by rw[gf],.inr ⟨w.heap.size,0,m.map λs=>(s.map fp).flatten,br,by rw[f1],ab,ab,IA U,λd x hs a3 d0=>?_⟩⟩;have D:d<n:=ab;have F:r.toList[d]?=bn (r.toList[d]'(by omega)):=by simp
  obtain⟨l2,s,d5,f3,d4,a0⟩:=am d _ F;rw[a3] at d5;obtain rfl:=c6 d5;rw[gH,f3] at d0;obtain rfl:=c6 d0;refine⟨_,d4.len,IZ (λd8 ex ii=>?_),d4.mono (λi8 k e=>⟨e,f0 k (A.ib k (hq e))⟩) (λk e=>?_)⟩
  ·have:=go (r.toList[d].1,a.eval r.toList[d].2) (c9.2 ⟨r.toList[d],m4 _,br⟩) _ _ rfl d8 ex ab;have N:=kc M d _ F;grind
  grind
 ·intro k e;rcases c2.1 e with rfl|e
  ·exact .inl ⟨eL _,aa⟩
  grind
 have:=K _ i;rw[show(aL.mk (bn (p,.ref p [])) m.flatten [] [(p,⟨.osl c,y⟩)]).app st=⟨(p,.ref p [])::kill m.flatten [] st.g,(p,⟨.osl c,y⟩)::del m.flatten st.h⟩ by
  show aq.mk ((p,_)::hP _ [] st.g) ([_]++jP _ st.h)=_;rw[k1,nm];rfl] at this
 omega
end
end
section
def fE:af->af
 |.osl a=>.au .aE (fE a)
 |.st a=>.st (fE a)
 |.pr b c=>.pr (fE b) (fE c)
 |.mp a=>.bh .aE a
 |τ=>τ
def jU:af->bA
 |.osl a|.st a=>jU a
 |.pr b c=>jU b&&jU c
 |.opt _ _|.nu _ _|.aM|.eB _|.aY=>bw
 |_=>bu
def jW:∀d:af,(fE d).den=d.den
 |.osl c=>cp bp (jW c)
 |.st c=>jW c
 |.pr a b=>by show((fE a).den×(fE b).den)=(a.den×b.den);rw[jW a,jW b]
 |.int _|.bool|.str|.au _ _|.ptr _ _|.opt _ _|.nu _ _|.aM|.aB _|.eB _|.nil|.aY|.mp _|.bh _ _|.fn _ _=>rfl
def hO (a:af) (b:a.den):(fE a).den:=cast (jW a).symm b
def yL {c:Type} (d:a=c) (e:bp a=bp c) (b:bp a):cast e b=b.map (cast d):=by subst d;show b=b.map (λf=>f);simp
theorem rm {c C d:Type} (e:a=c) (g:C=d) (f:(a×C)=(c×d)) (b:a×C):cast f b=(cast e b.1,cast g b.2):=by grind
def vj (a:af) (b:bp a.den):(hO (.osl a) b:bp (fE a).den)=b.map (hO a):=yL (jW a).symm _ b
def zI (a b:af) (c:a.den×b.den):(hO (.pr a b) c:(fE a).den×(fE b).den)=(hO a c.1,hO b c.2):=rm (jW a).symm (jW b).symm _ c
theorem kY:∀b:af,(fE b).size=b.size
 |.osl a=>rfl
 |.st a=>kY a
 |.pr c d=>by simp only[fE,cw,kY c,kY d]
 |.int _|.bool|.str|.au _ _|.ptr _ _|.opt _ _|.nu _ _|.aM|.aB _|.eB _|.nil|.aY|.mp _|.bh _ _|.fn _ _=>rfl
theorem mB {s o:aZ} {w:bz} (j:∀c b,s c b->o c b) (q:o.t=s.t):∀{τ:af} {h:ea} {e:τ.den} {i:ei},jU τ=bu->al s w τ h e i->(∀b∈i,o .aE b)->al o w (fE τ) h (hO τ e) []
 |.osl g,h,r,i,f,a,k=>by
  obtain⟨C,K,F,a⟩:=a;have G:(hO (.osl g) r:bp (fE g).den).length=cz (α:=g.den) r:=(by rw[vj];simp);rcases a with⟨rfl,an,rfl,rfl⟩|⟨b,S,D,rfl,rfl,p,z,E,A⟩
  ·refine⟨br,bq,0,by rw[F,G],ab,λ_=>rfl,.inl ?_⟩;grind
  refine⟨br,_,K,by rw[F,G],U,(λa=>by cases a),?_⟩;refine .inr ⟨b,S,br,k b aa,λl e n=>?_⟩;rw[vj] at n;have n:(List.map (hO g) r)[l]?=bn e:=n;rw[gH] at n;obtain⟨T,H,rfl⟩:=cF.1 n;have ap:l<cz (α:=g.den) r:=(e5.1 H).1;have O:D[l]?=bn (D[l]'(by omega)):=fq _
  obtain⟨y,u,v,x⟩:=A l T _ H O;rw[kY];exact⟨y,u,v,mB j q f x (λm B=>k m (eJ _ (gV.2 ⟨_,m4 _,B⟩)))⟩
 |.st g,h,e,i,f,a,k=>mB (τ:=g) j q f a k
 |.pr C b,h,e,i,f,a,k=>by
  simp only[jU,aC] at f;obtain⟨ad,am,rfl,p,z⟩:=a;have V:=zI C b e;refine⟨[],[],br,?_,?_⟩
  ·rw[kY];have:=mB j q f.1 p (λm B=>k m ab);grind
  rw[kY];have:=mB j q f.2 z (λm B=>k m ab);grind
 |.int Q,h,e,i,_,a,_=>by obtain rfl:=H2 (τ:=.int Q) rfl a;exact a.mono (λc b d=>⟨j c b d,b4 _ _⟩) aa
 |.bool,h,e,i,_,a,_=>by obtain rfl:=H2 (τ:=.bool) rfl a;exact a.mono (λc b d=>⟨j c b d,b4 _ _⟩) aa
 |.str,h,e,i,_,a,_=>by obtain rfl:=H2 (τ:=.str) rfl a;exact a.mono (λc b d=>⟨j c b d,b4 _ _⟩) aa
 |.au c g,h,e,i,_,a,_=>by obtain rfl:=H2 (τ:=.au c g) rfl a;exact a.mono (λc b d=>⟨j c b d,b4 _ _⟩) aa
 |.ptr c g,h,e,i,_,a,_=>by obtain rfl:=H2 (τ:=.ptr c g) rfl a;exact a.mono (λc b d=>⟨j c b d,b4 _ _⟩) aa
 |.nil,h,e,i,_,a,_=>by obtain rfl:=H2 (τ:=.nil) rfl a;exact a.mono (λc b d=>⟨j c b d,b4 _ _⟩) aa
 |.opt _ _,_,_,_,f,_,_|.nu _ _,_,_,_,f,_,_|.aM,_,_,_,f,_,_|.eB _,_,_,_,f,_,_=>by cases f
 |.aB R,h,e,i,_,a,_=>by obtain rfl:=H2 (τ:=.aB R) rfl a;exact a.mono (λc b d=>⟨j c b d,b4 _ _⟩) aa
 |.bh c g,h,e,i,_,a,_=>by obtain rfl:=H2 (τ:=.bh c g) rfl a;exact a.mono (λc b d=>⟨j c b d,b4 _ _⟩) aa
 |.fn c g,h,e,i,_,a,_=>by obtain rfl:=H2 (τ:=.fn c g) rfl a;exact a.mono (λc b d=>⟨j c b d,b4 _ _⟩) aa
 |.mp g,h,e,i,_,a,k=>by
  cases e with
  |none=>exact⟨br,a.2⟩
  |some I=>
   obtain⟨b,L,J,p,z,N,E,A,M⟩:=a;refine⟨b,L,J,p,br,N,k b ab,E,A,λl I P=>?_⟩;obtain⟨y,u,v,x⟩:=M l I P;exact⟨y,u,v,x.mono (λc b d=>⟨j c b d,b4 _ _⟩) aa⟩
 |.aY,_,_,_,f,_,_=>by cases f
def jV:aj->ag
 |⟨.opt _ u,x⟩=>.val (.ptr .aE (fE u)) (bn (hO u x))
 |⟨a,x⟩=>.val (fE a) (hO a x)
def r2:af->bA
 |.opt _ a=>jU a
 |τ=>jU τ
def ev (c:bp (bo×aj)) (b:ei) (a:ag):ag:=
 match a with
 |.ref id []=>bif a5 id b then match ah c id with
  |some d=>jV d
  |none=>.dead else .ref id []
 |a=>bif a.cD b then .dead else a
theorem hj (c:bp (bo×aj)) (b:ei) (a:ag):(∃id d,a=.ref id []/\id∈b/\ah c id=bn d/\ev c b a=jV d)\/(ev c b a=.dead/\a.cD b=bu)\/(ev c b a=a/\a.cD b=bw):=by
 have e:∀a:ag,ev c b a=(bif a.cD b then .dead else a)->(∃id d,a=.ref id []/\id∈b/\ah c id=bn d/\ev c b a=jV d)\/(ev c b a=.dead/\a.cD b=bu)\/(ev c b a=a/\a.cD b=bw):=ab;cases a with
 |ref id g=>
  cases g with
  |nil=>
   cases f:a5 id b with
   |true=>
    have i:(ag.ref id []).cD b=bu:=(by simp[cu,bM,f]);cases h:ah c id with
    |none=>grind [ev]
    |some d=>exact .inl ⟨id,d,br,ey.1 f,h,by grind [ev]⟩
   |false=>grind [ev,cu,bM]
  |cons j g=>exact e _ rfl
 |_=>exact e _ rfl
def e9 (c:bp (bo×aj)) (b:ei):ag->ag
 |.bb d=>.bb (d.map (ev c b))
 |a=>ev c b a
theorem r1 (b:∀a,e≠.bb a):e9 c h e=ev c h e:=by
 cases e with
 |bb a=>grind
 |_=>rfl
def kX (a:ei) (st:aq):aq:=⟨st.g.map λb=>(b.1,e9 st.h a b.2),del a st.h⟩
def r6 (c:ag->ag) (e:c .dead=.dead):∀(d:bp (bo×ag)) (b:bo),gt (d.map λf=>(f.1,c f.2)) b=c (gt d b)
 |[],b=>e.symm
 |(g,a)::d,b=>by
  show gt ((g,c a)::_) b=_;rw[gz,gz];split
  ·rfl
  exact r6 c e d b
theorem pT (a:ei) (st:aq) (b:bo):gt (kX a st).g b=e9 st.h a (gt st.g b):=r6 (e9 st.h a) rfl st.g b
def zL (a:ei) (st:aq):aw (kX a st).g=λb=>e9 st.h a (aw st.g b):=by
 funext b;cases b with
 |tmp c=>exact pT a st c
 |const d=>cases d<;>rfl
 |func e|global f=>rfl
theorem qM (b:e.cD h=bw) (a:bp (bo×bp ax)):cI h a e=e:=by grind [cI]
def E0 (a:(ag.bb O).cD h=bw) (c:e∈O):e.cD h=bw:=by unfold cu at a|-;rw[ls] at a|-;intro id f;obtain⟨b,d,rfl⟩:=kw.1 c;exact a id (ag.oS (l:=O) (i:=b) (fq d) f)
theorem tg (b:e.cD h=bw) (a:bp (bo×bp ax)):cS h a e=e:=by
 cases e with
 |bb d=>
  simp only[cS];rw[hf (λe c=>qM (E0 b c) a),List.map_id']
 |_=>exact qM b a
theorem zM (a:ei) (b:bp (bo×bp ax)) (c:aj):cS a b (jV c)=cI a b (jV c):=by unfold jV;split<;>rfl
def n3 (a e:ag):Prop:=a=.dead\/a=e\/∃b c,a=.bb b/\e=.bb c/\b.length=c.length/\∀(f:bo) (d g:ag),b[f]?=bn d->c[f]?=bn g->d=.dead\/d=g
section
variable {C:a6} {st:aq} {G:dY} {w:bz}
theorem aK.freeze {d:aW} {j:bo->ea} {e:bo->ei} (z:aK C st G w d j e) {c:ei} (U:∀id∈c,∃b,ah st.h id=bn b/\r2 b.1=bu):cV C (kX c st) G w:=by
 have M:=z.il (S:=c) (keep:=[]) (new:=[]) (rtn:=j) (fpn:=e) (w':=w) (I':=⟨λa=>d a\/∃id∈c,∃b,ah st.h id=bn b/\a∈e id,d.t⟩) ⟨eL _,br,br,br,λ_ _ _=>rfl,λ_ _=>.refl _ _,λ_ f=>.inl f,λa f=>f.imp id λ⟨id,am,b,v,o⟩=>
  ⟨((z.tree id b v).2.2 a o).2.2.1,.inr ⟨id,am,b,v,o⟩⟩,(λ_ _ f=>by cases f),(λ_ _ _ _ f=>by cases f),(λ_ f=>by cases f),(λ_ f=>by cases f),br⟩
 refine⟨_,_,_,{M with tmp:=λl=>?_}⟩;rw[pT];have p:=z.tmp l;have s:=M.tmp l;rw[show gt (aq.mk (kill c [] st.g) ([]++del c st.h)).g l=cS c [] (gt st.g l) from jf _ _ _ _] at s;generalize gt st.g l=m at p s;generalize G.getD l bL=k at p s;have H:∀(m:ag) (k:Value),aJ (az d C.B) w st.h j e m k->aJ (az ⟨λa=>d a\/∃id∈c,∃b,ah st.h id=bn b/\a∈e id,d.t⟩ C.B) w ([]++del c st.h) (bg [] j j) (bg [] e e) (cI c [] m) k->
  aJ (az ⟨λa=>d a\/∃id∈c,∃b,ah st.h id=bn b/\a∈e id,d.t⟩ C.B) w ([]++del c st.h) (bg [] j j) (bg [] e e) (ev st.h c m) k:=by
  intro m k p s;rcases hj st.h c m with⟨id,b,n,q,r,T⟩|⟨n,_⟩|⟨n,q⟩
  ·rw[T];rw[n] at p;cases p with|ref v an=>
   rw[r] at v;cases v;obtain⟨rfl,rfl,rfl⟩:=cb.1 an;obtain⟨d0,L,J⟩:=U id q;rw[r] at L;cases L;have I:∀A a,az d C.B A a->az ⟨λa=>d a\/∃id∈c,∃b,ah st.h id=bn b/\a∈e id,d.t⟩ C.B A a:=by
    intro A a o;cases A
    ·exact .inl o
    exact o.imp .inl (λf=>f)
   have K:=(z.tree id b r).1;have D:∀a∈e id,az ⟨λa=>d a\/∃id∈c,∃b,ah st.h id=bn b/\a∈e id,d.t⟩ C.B .aE a:=λa o=>.inr ⟨id,q,b,r,o⟩;obtain⟨i,y⟩:=b;by_cases ap:∃l u,i=.opt l u
   ·obtain⟨dl,u,rfl⟩:=ap;obtain⟨a,E,ce,P,ak,bl,bs,Q,bx,R,_⟩:=K;show aJ _ _ _ _ _ (.val (.ptr .aE (fE u)) (bn (hO u y))) _;have ak:j id=[.pointer (bn ⟨a,E,bq⟩)]:=ak;rw[ak];refine .val (τ:=.ptr .aE (fE u)) (x:=bn (hO u y)) (cs:=[.pointer (bn ⟨a,E,bq⟩)]) ⟨br,a,E,P,br,D a ab,by grind [kY],Q,mB I br J R (λO ci=>D O ab)⟩
   have a0:aN i (j id)=aN (fE i) (j id):=(by cases i<;>rfl);have a3:jV ⟨i,y⟩=.val (fE i) (hO i y):=by cases i<;>first|rfl|grind
   have av:jU i=bu:=by cases i<;>first|exact J|grind
   rw[a3];show aJ _ _ _ _ _ _ (aN i (j id));rw[a0];exact .val (mB I br av K D)
  ·rw[n];exact .dead _
  grind [qM]
 cases m with
 |bb ds=>
  cases p with|bb co V=>
  cases s with|bb cv ad=>
  refine .bb ab (λN a4 k n q=>?_);rw[gH] at n;obtain⟨F,r,rfl⟩:=cF.1 n;exact H F k (V N F k r q) (ad N _ k ab q)
 |_=>exact H _ _ p s
theorem cV.vW (t:cV C st G w) (y:∀a,n3 (gt i.g a) (gt st.g a)) (J:∀id,ah i.h id=ah st.h id):cV C i G w:=by
 obtain⟨k,n,l,d⟩:=t;refine⟨k,n,l,{d with tree:=λid e p=>d.tree id e ab,dis:=λj D e F L M=>d.dis j D e F ab ab,tmp:=λa=>?_}⟩;have P:∀(b:ag) (f:Value),aJ (az k C.B) w st.h n l b f->aJ (az k C.B) w i.h n l b f:=λb f v=>
  v.j5 (λO H x=>⟨x,b4 _ _⟩) (λid _ e p=>⟨ab,br,br,(d.tree id e p).1,λ_ _=>b4 _ _⟩)
 have m:=d.tmp a;rcases y a with c|c|⟨N,E,ak,q,r,s⟩
 ·rw[c];exact .dead _
 ·grind
 rw[ak];rw[q] at m;generalize G.getD a bL=f at m;cases m with|bb z K=>
 refine .bb (r.trans z) (λj b f u I=>?_);obtain⟨o,A⟩:∃o,E[j]?=some o:=ab;rcases s j b o u A with c|c
 ·rw[c];exact .dead _
 grind
def cV.less (b:cV C st G w) (c:∀a,gt i.g a=.dead\/gt i.g a=gt st.g a) (d:∀id,ah i.h id=ah st.h id):cV C i G w:=
 b.vW (λa=>(c a).imp id .inl) d
end
def kh:Op->dX
 |.build _ c|.buildSlice _ _ c=>c.toList.map (·.2)
 |.store _ _ a|.mapUpdate _ _ _ a|.insert _ _ _ a|.entryStore _ _ _ a|.box _ a|.assign a=>[a]
 |.call b=>match b.callee with
  |.value _=>b.args.toList
  |.builtin .append=>b.args.toList.drop 1
  |_=>[]
 |_=>[]
def l3 (b:bJ):bo:=match b.dst with
 |some a=>a
 |none=>999999
def hk (a:ej) (c:bo) (b:bH->ag):dX->ei
 |[]=>[]
 |x::d=>match b x with
  |.ref id []=>bif a.any (λe=>bB e.1 c&&bB e.2 id) then id::hk a c b d else hk a c b d
  |_=>hk a c b d
end
section
theorem rx {b c:bp a} (d:n<=f) (e:f<=b.length):(gL b c n f).length=b.length:=by grind [List.length_append,List.length_take,IK,gL]
theorem uf {c d:bp a} (e:f<=n) (g:n<=c.length) (b:bo):(gL c d f n)[b]?=if f<=b/\b<f+min d.length (n-f) then d[b-f]? else c[b]?:=by grind [gL]
def jO {k:Type} (tt:bp (bC×af)) (d:bp (bo×aj)) (f:bo) (l:bC) (m j:ag) (e:aL->bv k):bv k:=
 match ew tt l with
 |none=>bq
 |some i=>match m with
  |.ref id []=>match ah d id with
   |some ⟨.osl a,b⟩=>bif aD i a&&bB a.size 1&&a.pure then
    (gF d a j).bind λc=>e ⟨bn (f,.val (.int .i64) ((min c.length (b.length-0):bo):bt)),[id],[(id,[])],[(id,⟨.osl a,gL b c 0 b.length⟩)]⟩
    else bq
   |_=>bq
  |.view id [] h g=>match ah d id with
   |some ⟨.osl a,b⟩=>bif aD i a&&bB a.size 1&&a.pure then
    (gF d a j).bind λc=>e ⟨bn (f,.val (.int .i64) ((min c.length (g-h):bo):bt)),[id],[(id,[])],[(id,⟨.osl a,gL b c h g⟩)]⟩
    else bq
   |_=>bq
  |_=>bq
def aL.yl {a:ei} {st:aq}:(aL.mk (bn (f,e)) a u c).app st=⟨(f,e)::kill a u st.g,c++del a st.h⟩:=by show aq.mk ((f,e)::hP a u st.g) (c++jP a st.h)=_;rw[k1,nm]
section
variable {E:cG} {C:a6} {st:aq} {a:Act} {w:bz} {I:aW} {rt:bo->ea} {fp:bo->ei} {o:bJ}
def ti (e:aK C st a.tmps w I rt fp) {b:bp j.den} (c:gF st.h j (aw st.g m)=bn b):oe I C.B w j (a.eval m) b:=by
 refine mO e ?_;have:=pc c;generalize kj st.h j (aw st.g m)=i at this;cases i with
 |bk l=>exact this.symm
 |part n o k=>obtain⟨f,d,rfl⟩:=this;exact⟨f,d,br⟩
 |bad=>exact this.elim
theorem rv (ci:aK C st a.tmps w I rt fp) {fT:Type} {fn:fT} {ds:aL->bv fT} {x:bo} (hs:o.op=.call {callee:=.builtin .copy,args:=#[m,N],argTypes:=#[b,q]}) (ge:o.dst=bn x) (gf:C.ok x) {next:Act->bz->Prop} {d1:bU->Act->bz->Prop} (hp:∀fs a0 w',(∃r,ds r=bn fn/\fs=r.app st)->a0.defers=a.defers->cV C fs a0.tmps w'->next a0 w') (f8:ew E.tt b=bn z) (gt:aD z j=bu) (G:j.size=1) (V:j.pure=bu) {id:bo} {i g:bp j.den} (am:ah st.h id=bn ⟨.osl j,i⟩) (bx:f<=n) (ce:n<=i.length) (io:oe I C.B w j (a.eval N) g) {a3:bv b6} {d2:bo} (ic:a.eval m=.slice a3 (n-f) d2) (ii:n-f=0\/∃c l L,rt id=[.slice (bn ⟨c,l,bq⟩) i.length L]/\a3=bn ⟨c,l+f,bq⟩) (f5:ds ⟨bn (x,.val (.int .i64) ((min g.length (n-f):bo):bt)),[id],[(id,[])],[(id,⟨.osl j,gL i g f n⟩)]⟩=bn fn):o.wp E.P a w next d1:=by
 obtain⟨d,d0,rs,d8,f3⟩:=ew.ok f8;have f4:=f3.lay gt;obtain⟨pr,_,cP,_⟩:=f4.info;obtain⟨fx,to,ts⟩:=ci.tree id _ am;obtain⟨fz,l2,d4,it,co,no⟩:=io;have d3:∀w':bz,w'.heap.size=w.heap.size->w'.os=w.os->w'.tape=w.tape->w'.output=w.output->(∀c,c∉fp id->w'.heap[c]?=w.heap[c]?)->(∀c,fk w' c=fk w c)->al (az I C.B) w' (.osl j) (rt id) (gL i g f n) (fp id)->
  (Builtin.copy_ #[b,q] o.type #[a.eval m,a.eval N]).run E.P w=.ok (goInt ((min g.length (n-f):bo):bt)) w'->o.wp E.P a w next d1:=by
  intro w' kd kg lb le lk lt tf ad;have ad:(bF a.eval o).run E.P w=.ok (.value (goInt ((min g.length (n-f):bo):bt))) w':=(by simp only[bF,hs,en,invoke,ep,bP,b9,bT,Jm,fm,Jn,ad]);have ib:=ci.il (S:=[id]) (keep:=[(id,[])]) (new:=[(id,⟨.osl j,gL i g f n⟩)]) (rtn:=rt) (fpn:=fp) (w':=w') (I':=I)
   ⟨Nat.le_of_eq kd.symm,kg,lb,le,λc nd f7=>lk c (f7 id aa _ am),λc _=>.of_eq (lt c),λ_ M=>M,λ_ M=>.inl M,(by
    intro d ft s;rw[aU] at s;split at s
    ·grind
    ·cases s),(by
    intro d e ty t0 s cv nu;rw[aU] at s cv;split at s
    ·split at cv
     ·omega
     cases cv
    ·cases s),(by
    intro r O ft an;simp only[hg] at O;subst O;have an:ah st.h id=bn ft:=an;rw[am] at an;obtain rfl:=c6 an;exact⟨⟨.osl j,gL i g f n⟩,by rw[aU,bc br],br,br,⟨_,br⟩,λrg _ _ _ R=>by grind [p0]⟩),(by
    grind [lW,Ju]),br⟩
  unfold cc;rw[ad];show next (a.put o.dst _) w'
  rw[ge];have V:=ib.put gf (av:=.val (.int .i64) ((min g.length (n-f):bo):bt)) (v:=goInt ((min g.length (n-f):bo):bt)) (.val (τ:=.int .i64) (cs:=[.int .i64 _]) ⟨br,br⟩);have hrel:cV C ((aL.mk (bn (x,.val (.int .i64) ((min g.length (n-f):bo):bt))) [id] [(id,[])] [(id,⟨.osl j,gL i g f n⟩)]).app st) (a.put (bn x) (goInt ((min g.length (n-f):bo):bt))).tmps w':=(by rw[aL.yl];exact⟨I,_,_,V⟩);exact hp _ _ _ ⟨_,f5,br⟩ rfl hrel
 have or:Nat.min g.length (n-f)=min g.length (n-f):=rfl;by_cases R:min g.length (n-f)=0
 ·have ne:gL i g f n=i:=by
   apply iw;intro d;rw[uf bx ce,a8 U]
  refine d3 w br rfl rfl rfl (λ_ _=>rfl) (λ_=>rfl) ab ?_;rw[ic,it,R];exact run_copy_none w b q o.type d0 a3 fz _ _ _ _ d8 (by rw[cP.info];simp[cP.size,G]) U
 rcases ii with mt|⟨c,l,L,eq,rfl⟩
 ·omega
 rw[eq] at fx;obtain⟨mc,mp,ak,f2⟩:=fx;simp only[eQ,cg,b2] at ak;obtain⟨rfl,_,rfl⟩:=ak;rcases f2 with⟨a4,_⟩|⟨mg,rd,D,a4,em,d5,d6,bs,d7⟩
 ·cases a4
 cases a4;have d6:i.length<=L:=d6;have d5:D.length=i.length:=d5;have go:D.flatten=[]:=rU (λbl Q=>by
  obtain⟨d,s,rfl⟩:=kw.1 Q;have on:d<i.length:=U;obtain⟨A,_,_,y⟩:=d7 d i[d] D[d] aa aa;exact y.pure V)
 rw[go] at em;obtain⟨dl,i2,i3,i8,jp⟩:=co.cells U;rw[G,IB] at i2;have is:g≠[]:=λr=>ab;obtain⟨ap,rfl⟩:∃ap,fz=some ap:=by
  rcases co.2 with M|⟨mo,ps,rfl,_⟩
  ·grind
  grind
 let k:=dl.take (min g.length (n-f))
 have f9:k.length=min g.length (n-f):=ab;have gc:∀e v,k[e]?=bn v->dl[e]?=bn v:=λe v p=>by
  rw[m3] at p;split at p
  ·exact p
  grind
 have el:∀e,e<k.length->(w.cell? ⟨c,l+f+e,bq⟩).isSome=bu:=λe p=>(bs (l+f+e) U ab).1;have ad:=run_copy_cells (P:=E.P) w b q o.type d0 c (l+f) (n-f) d2 ap g.length l2 k d8 (by rw[cP.info];simp[cP.size,G]) (by rw[f9]) (λe v p=>i8 ap br is e v (gc e v p)) el (λe p=>(bs (l+f+e) U ab).2) (λv u=>i3 v (List.mem_of_mem_take u));have d9:c∈fp id:=ab;have f6:∀J t,az I C.B J t->t≠c:=λJ t T r=>ci.notM am c d9 J (r▸T);refine d3 (w.setCells c (l+f) k) (hV c k _ w) (hv c k _ w).1 (hv c k _ w).2.1 (hv c k _ w).2.2 (λt R=>jr c k _ w t (λr=>R (r▸d9))) (λt=>oR _ _ _ _ _) ?_ ?_
 ·rw[eq,em];refine⟨bn ⟨c,l,bq⟩,L,by rw[rx bx ce],.inr ⟨c,l,bZ i.length [],br,by rw[rU (λbl Q=>List.eq_of_mem_replicate Q)],by grind [rx],by grind [rx],?_,?_⟩⟩
  ·intro e i0 i1;obtain⟨t1,t2⟩:=bs e i0 i1;grind [qA,Jp]
  intro d K bl H Q;have gl:bl=[]:=ab;subst gl;rw[uf bx ce] at H;have ex:∀{A:ea} {K:j.den},al (az I C.B) w j A K []->al (az I C.B) (w.setCells c (l+f) k) j A K []:=λF=>F.mono (λJ t T=>⟨T,js (f6 J t T)⟩) aa;split at H
  ·rename_i ol;have p:d-f<k.length:=U;have gs:d4[d-f]?=bn []:=by
    have pl:d-f<d4.length:=(by rw[co.1];omega);grind [List.flatten_eq_nil_iff,List.getElem_mem,List.getElem?_eq_getElem]
   have F:=jp (d-f) K [] H gs;rw[G,IB] at F;have gh:(dl.drop (d-f)).take 1=[k[d-f]]:=(by grind [List.drop_eq_getElem_cons]);rw[gh] at F;refine⟨[k[d-f]],ab,?_,ex F⟩;intro e v u;cases e with
   |zero=>
    simp only[fe,aV] at u;subst u;have:=Ij c k (l+f) w el (d-f) p;rw[<-this,G];congr 2;omega
   |succ e=>grind
  rename_i pm;have of:d<i.length:=(e5.1 H).1;obtain⟨A,f0,f1,y⟩:=d7 d K (D[d]'(by omega)) H aa
  have O:D[d]'(by omega)=[]:=y.pure V
  rw[O] at y;refine⟨A,f0,?_,ex y⟩;intro e v u;have:=f1 e v u;grind [Iy,Jb]
 grind
theorem ba.copy {M:Type} {J:M} {D:aL->bv M} (z:o.op=.call {callee:=.builtin .copy,args:=#[m,N],argTypes:=#[b,q]}) (u:o.dst=bn f) (v:C.ok f) (c:jO E.tt st.h f b (aw st.g m) (aw st.g N) D=bn J):ba E C o st (λT=>∃H,D H=bn J/\T=H.app st):=by
 rintro a w ⟨I,rt,fp,e⟩ next am y
 have k:=e.aw m;unfold jO at c;split at c
 ·cases c
 rename_i K A;split at c
 ·rename_i id t;split at c
  case h_2=>cases c
  rename_i j L i;cases d:(aD K j&&bB j.size 1&&j.pure) with
  |false=>grind
  |true=>
  rw[d] at c;simp only[aC] at d;obtain⟨V,p,c⟩:=a1.1 c;rw[t] at k;generalize n:a.eval m=U at k;cases k with|ref l x=>
  rw[i] at l;cases l;obtain⟨rfl,rfl,rfl⟩:=cb.1 x;have B:=(e.tree id _ i).1;obtain⟨F,G,ak,O⟩:=B;have Q:a.eval m=.slice F (L.length-0) G:=(by rw[n,ak];rfl);refine rv e z u v y A d.1.1 (a7 d.1.2) d.2 i (Jt _) (eL _) (ti e p) Q ?_ c;grind
 ·rename_i id a4 av t;split at c
  case h_2=>cases c
  rename_i j L i;cases d:(aD K j&&bB j.size 1&&j.pure) with
  |false=>grind
  |true=>
  rw[d] at c;simp only[aC] at d;obtain⟨V,p,c⟩:=a1.1 c;rw[t] at k;generalize n:a.eval m=U at k;cases k with|fV=>(exact rv e z u v y A d.1.1 (a7 d.1.2) d.2 i (eL _) (Jt _) (ti e p) n (.inl br) c)|view l x R S a0=>
  rw[i] at l;cases l;rename_i ad bl an bs a3 G;obtain⟨r,_,s⟩:=cb.1 x;have r:af.osl j=af.osl ad:=r;cases r;have P:=a7 d.1.2;have B:=(e.tree id _ i).1;obtain⟨F,ap,ak,O⟩:=B;rw[ak] at s;simp only[eQ,cg,b2] at s;obtain⟨rfl,rfl,rfl⟩:=s;refine rv e z u v y A d.1.1 P d.2 i R S (ti e p) n ?_ c;grind
 grind
end
end
section
def ar.cells {w r:bz} (d:∀a,r.cell? a=w.cell? a):∀{q:bp ax} {τ u:af} {n p:Loc} {f g:ea},ar w τ n f q u p g->ar r τ n f q u p g
 |[],τ,_,_,_,_,_,b=>by cases τ<;>exact b
 |s::q,τ,u,n,p,f,g,b=>by
  have v:∀{c o:bo} {e:ea},a9 w c o e->a9 r c o e:=λz B D A=>(by rw[d];exact z B D A);cases τ<;>cases s<;>simp only[ar] at b
  case osl.idx t i=>
   obtain⟨c,o,C,x,e,h,j,l,m,y⟩:=b;exact⟨c,o,C,x,e,h,j,l,v m,y.cells d⟩
  case opt.deref k t=>
   obtain⟨c,o,e,h,j,l,m⟩:=b;exact⟨c,o,e,h,j,v l,m.cells d⟩
  case st.unst t=>exact ar.cells d (τ:=t) b
  case nu.unn k t=>exact⟨b.1,ar.cells d (τ:=.opt k t) b.2⟩
  case pr.fst a c=>exact ar.cells d (τ:=a) b
  case pr.snd a c=>exact ar.cells d (τ:=c) b
theorem ET (a:af):bm a []=bn a:=by cases a<;>rfl
theorem ar.mN {w:bz} {r:bp ax}:∀{p:bp ax} {τ c:af} {n q:Loc} {e f:ea},ar w τ n e p c q f->bm τ (p++r)=bm c r
 |[],τ,_,_,_,_,_,a=>by grind [cb]
 |s::p,τ,_,_,_,_,_,a=>by
  cases τ<;>cases s<;>simp only[ar] at a
  case osl.idx t i=>obtain⟨d,o,v,u,g,h,j,l,b,m⟩:=a;exact m.mN
  case opt.deref k t=>obtain⟨d,o,g,h,j,l,b⟩:=a;exact b.mN
  case st.unst t=>exact ar.mN (p:=p) (τ:=t) a
  case nu.unn k t=>exact ar.mN (p:=p) (τ:=.opt k t) a.2
  case pr.fst t1 t2=>exact ar.mN (p:=p) (τ:=t1) a
  case pr.snd t1 t2=>exact ar.mN (p:=p) (τ:=t2) a
section
variable {E:cG} {C:a6} {st:aq} {a:Act} {A:dY} {w:bz} {I:aW} {rt:bo->ea} {fp:bo->ei} {o:bJ} {Q:aq->Prop}
def uV:∀{p q:bp ax},gd (p++[.deref]) q=bu->gd p q=bu
 |[],q,a=>by
  cases q with
  |nil=>cases a
  |cons s q=>
   cases s<;>cases a
 |s::p,[],a=>by cases s<;>cases a
 |s::p,b::q,a=>by cases s<;>cases b<;>first|(cases a;done)|exact uV (p:=p) (q:=q) a|rfl
theorem aK.qc (v:aK C st A w I rt fp) {id:bo} (t:ah st.h id=bn P) {q:bp ax} {am:Loc} {M:ea} (Q:ar w P.1 bq (rt id) q z am M) {U:bp (bt×j.den)} (dl:aX P.1 P.2 q (.mp j) (bn (U,f))):∃a F E,M=[.map (bn a)]/\a∈fp id/\(∀p b,az I C.B p b->b≠a)/\eK (az I C.B) w j a U f F E/\∀{e:bN b5} {c:bo} {D:bp (bt×j.den)} {L:bp (bt×bo×j.den)} {n:P.1.den},eK (az I C.B) (de w a e c) j a D c e L->gr w (de w a e c) a->be P.1 P.2 q (.mp j) (bn (D,c)) n->∃d9 a3,aK C ⟨kill [id] [(id,q++[.deref])] st.g,(id,⟨P.1,n⟩)::del [id] st.h⟩ A (de w a e c) I d9 a3:=by
 obtain⟨d3,S,cs⟩:=v.tree id P t;obtain⟨f8,eq,fn,d8,a4,bl,bs,N,ft,bx,ce⟩:=oL q (loc:=bq) d3 (λ_ _ k=>by cases k) S (λ_ _ k=>by cases k) (v.notM t) dl;obtain⟨ap,ak,av⟩:=Q.fM a4;subst ap;subst ak;subst av;obtain⟨a,F,E,rfl,rfl,G⟩:=bl.wl;have H:a∈fp id:=N.mem_iff.2 aa;have co:∀p b,az I C.B p b->b≠a:=λp b i m=>v.notM t a H p (m▸i);refine⟨a,F,E,br,H,co,G,?_⟩;intro e c D L n ci fz T;have R:=N.nodup_iff.1 S;rw[gI] at R;have f3:∀b∈d8,b≠a:=λb i m=>R.2.2 a aa b i m.symm;have x:=Ex (es':=e) (c':=c) G.h;have cv:=Ey (es':=e) (c':=c) G.h;have d5:∀b,b≠a->aP w (de w a e c) b:=λb i=>qB i;obtain⟨ex,a0,f4,_,d6,_,f6,_,f5⟩:=bx (de w a e c) (az I C.B) [.map (bn a)] (bn (D,c)) [a] n (λ_ _ k=>k) rfl (λb i=>by
   have ds:b≠a:=by
    rcases i with⟨p,f1⟩|i|⟨o,f2⟩
    ·grind
    ·grind
    grind
   exact⟨λu _=>x _,λu=>cv _,λu=>by rw[x],(d5 b ds).2⟩)
  (al.wm ci) (λ_ _=>rfl) (λan d7 m=>by
   have:=(bs an d7 m).1;exactλu ad s=>by rw[x];exact this u ad s) T
 obtain rfl:=d6 br (.inr br);have f0:=(cs a H).2.2.1;have d:hE C st w (de w a e c) I I rt fp [id] [(id,q++[.deref])] [(id,⟨P.1,n⟩)] (λ_=>rt id) (λ_=>a0):=by
  refine⟨by grind [xy],br,br,br,?_,?_,λ_ k=>k,λ_ k=>.inl k,?_,?_,?_,?_,br⟩
  ·grind [o6]
  ·intro b _;by_cases m:b=a
   ·grind
   exact .of_heap (o6 m)
  ·intro J K d;rw[aU] at d;split at d
   ·grind [xy]
   cases d
  ·intro J u K ad l s fT;rw[aU] at l s;split at l
   ·split at s
    ·omega
    cases s
   cases l
  ·intro J l K d;simp only[hg] at l;subst l;rw[t] at d;obtain rfl:=c6 d;refine⟨⟨P.1,n⟩,by rw[aU,bc br],br,br,?_,λV gl f9 em _ d2=>d2.cells x⟩;have fx:=Q.mN (r:=[.deref]);grind [ET,bm]
  intro J l K d V gh gf f7 el fs y d1 d0 O d4;simp only[hg] at l;subst l;rw[t] at d;obtain rfl:=c6 d;have y:=uV y;refine⟨⟨P.1,n⟩,by rw[aU,bc br],kR y T O,λb i=>?_⟩;obtain⟨gc,ge⟩:=ce V _ _ _ _ _ y (by exact d1) O d0 d4 b i;grind
 exact⟨_,_,v.il d⟩
def qb {α:Type} (c:bv (bp (bt×α)×bo)) (b:bt) (d:α):bv (bv (bp (bt×α)×bo)):=match c with
 |none=>bq
 |some a=>bn (bn (ho a.1 b d,bif (eE a.1 b).isSome then a.2 else a.2+1))
def ia {f:Type} (tt:bp (bC×af)) (i:bp (bo×aj)) (h:bC) (n d m:ag) (g:aL->bv f):bv f:=
 match n with
 |.ref id c=>match ah i id with
  |some a=>match gA tt h,d,m with
   |some l,.val (.int .i64) d,.val p e=>match bm a.1 c with
    |some (.mp b)=>bif aD l b then match eV b e with
     |some e=>(da a.1 a.2 c (.mp b)).bind λj=>(qb (α:=b.den) j d e).bind λk=>(hc a.1 a.2 c (.mp b) k).bind λo=>g ⟨bq,[id],[(id,c++[.deref])],[(id,⟨a.1,o⟩)]⟩
     |none=>bq
     else bq
    |_=>bq
   |_,_,_=>bq
  |none=>bq
 |_=>bq
def AL {α:Type} (c:bv (bp (bt×α)×bo)) (b:bt):bv (bv (bp (bt×α)×bo)):=match c with
 |none=>bq
 |some a=>bn (bn (fo a.1 b,a.2))
def j3 {e:Type} (tt:bp (bC×af)) (h:bp (bo×aj)) (g:bC) (l d:ag) (f:aL->bv e):bv e:=
 match l with
 |.ref id b=>match ah h id with
  |some a=>match gA tt g,d with
   |some k,.val (.int .i64) d=>match bm a.1 b with
    |some (.mp c)=>bif aD k c then
     (da a.1 a.2 b (.mp c)).bind λi=>(AL (α:=c.den) i d).bind λj=>(hc a.1 a.2 b (.mp c) j).bind λm=>f ⟨bq,[id],[(id,b++[.deref])],[(id,⟨a.1,m⟩)]⟩
     else bq
    |_=>bq
   |_,_=>bq
  |none=>bq
 |_=>bq
theorem wn {B:Type} {z:B} {q:aL->bv B} {e:bH} (i:o.op=.mapUpdate b e m N\/o.op=.insert b e m N) (T:o.dst=bq) (c:ia E.tt st.h b (aw st.g e) (aw st.g m) (aw st.g N) q=bn z):ba E C o st (λdl=>∃s,q s=bn z/\dl=s.app st):=by
 rintro a w ⟨I,rt,fp,f⟩ next d6 am
 have n:=f.aw e;have d:=f.aw m;have l:=f.aw N;unfold ia at c;split at c
 case h_2=>cases c
 rename_i id el H;split at c
 case h_2=>cases c
 rename_i fz x;split at c
 case h_2=>cases c
 rename_i d1 j fx fs S D G;obtain⟨d2,d5,ds,d0,em⟩:=gA.ok S;split at c
 case h_2=>cases c
 rename_i p ap;cases t:aD d1 p with
 |false=>grind
 |true=>
 rw[t] at c;simp only[bK] at c;split at c
 case h_2=>cases c
 rename_i fn a3;obtain⟨bx,V,K⟩:=a1.1 c;obtain⟨d9,u,L⟩:=a1.1 K;obtain⟨ft,a4,M⟩:=a1.1 L;cases bx with
 |none=>cases u
 |some ce=>
 obtain⟨bl,r⟩:=ce;cases u;cases fL a3;rw[H] at n;rw[D] at d;rw[G] at l;generalize a0:a.eval e=ex at n;generalize ad:a.eval m=d8 at d;generalize av:a.eval N=eq at l;cases d with|val cs=>
 obtain⟨_,rfl⟩:=cs;cases l with|val A=>
 cases n with|ref y v=>
 rw[x] at y;cases y;obtain⟨k,d7,d3,rfl,t,Q,O,U⟩:=f.qc x v (eH V);have:=v.ty;rw[ap] at this;cases this;obtain⟨F,d4,ci,co,aA⟩:=O.update (P:=E.P) ds d0 j A.len A;obtain⟨cv,J,R⟩:=U (co (λbs m d=>⟨d,Q bs m d⟩) rfl) aA (hw a4);unfold cc;have an:(bF a.eval o).run E.P w=.ok .skip (de w k F (bif (eE bl j).isSome then r else r+1)):=by
  have this:∀p:af,aN (.mp p) [Ix (bn k)]=.map (bn k):=λ_=>rfl;rcases i with i|i<;>
  ·simp only[bF,i,a0,ad,av,bP];rw[this,show aN (.int .i64) [b0 .i64 j]=.int .i64 j from rfl,ci];rfl
 rw[an];show next (a.put o.dst bL) _
 rw[T];refine am _ _ _ ⟨_,M,?_⟩ rfl ⟨I,cv,J,R⟩;rfl
theorem AU {x:Type} {v:x} {l:aL->bv x} (U:o.op=.call {callee:=.builtin .delete,args:=#[N,m],argTypes:=#[b,q]}) (O:o.dst=bq) (c:j3 E.tt st.h b (aw st.g N) (aw st.g m) l=bn v):ba E C o st (λbx=>∃n,l n=bn v/\bx=n.app st):=by
 rintro a w ⟨I,rt,fp,f⟩ next d0 T
 have i:=f.aw N;have d:=f.aw m;unfold j3 at c;split at c
 case h_2=>cases c
 rename_i id d5 B;split at c
 case h_2=>cases c
 rename_i d9 t;split at c
 case h_2=>cases c
 rename_i co j M z;obtain⟨cs,ds,ce,ci,d6⟩:=gA.ok M;split at c
 case h_2=>cases c
 rename_i k ad;cases p:aD co k with
 |false=>grind
 |true=>
 rw[p] at c;simp only[bK] at c;obtain⟨av,R,F⟩:=a1.1 c;obtain⟨d4,r,G⟩:=a1.1 F;obtain⟨d8,an,H⟩:=a1.1 G;cases av with
 |none=>cases r
 |some a0=>
 obtain⟨d3,y⟩:=a0;cases r;rw[B] at i;rw[z] at d;generalize am:a.eval N=d7 at i;generalize S:a.eval m=d2 at d;cases d with|val bl=>
 obtain⟨_,rfl⟩:=bl;cases i with|ref u s=>
 rw[t] at u;cases u;obtain⟨e,d1,cv,rfl,p,K,J,Q⟩:=f.qc t s (eH R);have:=s.ty;rw[ad] at this;cases this;obtain⟨A,dl,a3,a4,aA⟩:=J.delete (P:=E.P) ce ci j o.type q;obtain⟨bs,D,L⟩:=Q (a4 (λap m d=>⟨d,K ap m d⟩) rfl) aA (hw an);unfold cc;have V:(bF a.eval o).run E.P w=.ok (.value (.tuple #[])) (de w e A y):=(by simp only[bF,U,en,invoke,ep,bP,b9,bT,Jm,fm,Jn,am,S];have this:∀k:af,aN (.mp k) [Ix (bn e)]=.map (bn e):=λ_=>rfl;rw[this,show aN (.int .i64) [b0 .i64 j]=.int .i64 j from rfl,a3];rfl);rw[V];show next (a.put o.dst (.tuple #[])) _
 rw[O];refine T _ _ _ ⟨_,H,?_⟩ rfl ⟨I,bs,D,L⟩;rfl
def mv (c:bp (bo×aj)) (f g:ag):bv (bo×bp ax×bo×aj):=match f,g with
 |.ref id (e::d),.ref a []=>match ah c a with
  |some b=>match b.1 with
   |.osl h=>match h.pure with
    |true=>bq
    |false=>bn (id,e::d,a,b)
   |_=>bq
  |none=>bq
 |_,_=>bq
def oj {h:Type} (tt:bp (bC×af)) (e:bp (bo×aj)) (b:bo) (j:bC) (id:bo) (c:bp ax) (f:bo) (k:aj) (i:aL->bv h):bv h:=
 match ew tt j,ah e id,ah e b with
 |some l,bn d,bq=>match bm d.1 c with
  |some (.osl a)=>match eV (.osl a) k.2 with
   |some g=>bif aD l a&&(bR a.size 1300&&(a.gk&&!(bB f id))) then
    (da d.1 d.2 c (.osl a)).bind λm=>(gB (cz (α:=a.den) m+cz (α:=a.den) g)).bind λ_=>i ⟨bn (b,.app id c a g [b,f]),[id],[(id,c),(id,[])],[(b,⟨.aY,()⟩),(id,d)]⟩
    else bq
   |none=>bq
  |_=>bq
 |_,_,_=>bq
def h1 {g:Type} (tt:bp (bC×af)) (h:bp (bo×af)) (a:bp (bo×aj)) (d:bo) (c:bC) (e f:ag) (b:aL->bv g):bv g:=match mv a e f with
 |some (id,j,i,k)=>oj tt a d c id j i k b
 |none=>iD tt h a d c e f b
theorem sS {id:bo} {a:bp ax} (b:mv c e t=bn (id,a,f,P)):e=.ref id a/\t=.ref f []/\ah c f=bn P:=by unfold mv at b;grind
theorem yi {D:Type} {z:D} {r:aL->bv D} (x:o.op=.call {callee:=.builtin .append,args:=#[N,m],argTypes:=#[b,b]}) (u:o.dst=bn f) (v:C.ok f) (c:h1 E.tt l st.h f b (aw st.g N) (aw st.g m) r=bn z):ba E C o st (λce=>∃e,r e=bn z/\ce=e.app st):=by
 unfold h1 at c;split at c
 case h_2=>exact ba.app x u v (yf c (λe n=>⟨e,n,br⟩))
 rename_i id d0 d ci am;obtain⟨M,O,p⟩:=sS am;unfold oj at c;split at c
 case h_2=>cases c
 rename_i co d6 K av L;split at c
 case h_2=>cases c
 rename_i j dl;split at c
 case h_2=>cases c
 rename_i d4 a3;cases i:(aD co j&&(bR j.size 1300&&(j.gk&&!(bB d id)))) with
 |false=>grind
 |true=>
 rw[i] at c;simp only[aC] at i;obtain⟨R,ap,U,V⟩:=i;have V:d≠id:=λe=>ae;obtain⟨d3,a0,H⟩:=a1.1 c;obtain⟨_,S,J⟩:=a1.1 H;obtain⟨d5,A⟩:=ci;cases fL a3;rintro a w ⟨I,rt,fp,k⟩ next cs ad
 refine tA (S2:=[d]) x u v k ad K R (c5 ap) U M av L (eH a0) ?_ ?_ (nD S) ⟨_,J,br⟩
 ·have q:=k.aw m;rw[O] at q;generalize ds:a.eval m=d2 at q;cases q with|ref y T=>
  rw[p] at y;cases y;obtain⟨rfl,rfl,rfl⟩:=cb.1 T;obtain⟨bl,bx,d1⟩:=k.tree d _ p;have a4:=bl;obtain⟨s,t,an,cv⟩:=a4;have bs:al (az I C.B) w (.osl j) [.slice s (cz (α:=j.den) A) t] A (fp d):=ab;obtain⟨_,_,G,n,P,Q,_⟩:=fW.osl bs;exact⟨s,t,G,by rw[an];rfl,n,Q bx,λF i=>⟨d,aa,_,p,P F i⟩⟩
 grind
end
end
section
section
variable {P:bQ} {w:bz} {b c:bo} {A:bN b5} {M:aZ} {t:af} {l:bp (bt×t.den)} {L:bp (bt×bo×t.den)}
theorem s6 {a d:bN b5} (g:w.heap[b]?=bn (.map A c)) (e:de w b a f=de w b d n):a=d/\f=n:=by grind [Kr,Obj.map.injEq,ik]
theorem eK.tM (h:eK M w t b l c A L) {g:b5} (i:A[f]?=bn g):∃a d,L[f]?=bn a/\g=⟨.int .i64 a.1,aN t d,a.2.1⟩:=by have j:f<L.length:=(by have:=(iR.1 i).1;rw[h.n] at this;omega);obtain⟨d,_,k,_⟩:=h.e f L[f] (fq j);grind
theorem eK.EW (e:eK M w t b l c A L) {a d:bt×bo×t.den} (m:L[f]?=bn a) (o:L[n]?=bn d) (k:a.1=d.1):f=n:=by have h:=e.iL.nJ;have g:f<(L.map (·.1)).length:=ab;apply(JM g h (i:=f) (j:=n)).1;grind
theorem eK.EV (e:eK M w t b l c A L) {d a:bt×bo×t.den} (m:L[f]?=bn d) (o:L[n]?=bn a) (k:d.2.1=a.2.1):f=n:=by have h:=e.iL.2.2.1;have g:f<(L.map λa=>a.2.1).length:=ab;apply(JM g h (i:=f) (j:=n)).1;grind
theorem wk {c:bN a} {d e:a->a} (g:∀b,c[f]?=bn b->d b=e b):c.modify f d=c.modify f e:=by grind
theorem eK.entry (d:eK M w t b l c A L) {z y:bC} {K:ca} (m:P.underlying q=bn (.map z y)) (g:P.underlying z=bn (.int K)) (a:bt) {x:t.den} (I:Q.length=t.size) (E:al M w t Q x []) (J:∀w,(cr y).run P w=.ok (aN t Q) w):∃(f:bN b5) (n:bp (bt×bo×t.den)) (u:ea) (o e:bo),(J1 q (.map (bn b)) (.int .i64 a)).run P w=.ok (.tuple #[aN t u,goInt ((o:bo):bt)]) (de w b f (bif (eE l a).isSome then c else c+1))/\al M w t u ((eE l a).getD x) []/\f[e]?=bn (I6 (.int .i64 a) (aN t u) o)/\(∀{s:aZ},(∀F a,M F a->s F a/\a≠b)->s.t=M.t->eK s (de w b f (bif (eE l a).isSome then c else c+1)) t b (ho l a ((eE l a).getD x)) (bif (eE l a).isSome then c else c+1) f n)/\gr w (de w b f (bif (eE l a).isSome then c else c+1)) b:=by
 rcases d.find (P:=P) g a with⟨v,H,r⟩|⟨e,o,S,p,v,H,r,O,B,C⟩
 ·obtain⟨f,n,i,j,aA⟩:=d.update (P:=P) m g a I E;rw[v] at i j aA|-;simp only[JL,cq,Option.getD_none] at i j aA|-;have aH:(HX q (.map (bn b)) (.int .i64 a) (aN t Q)).run P w=.ok () (de w b (A.push ⟨.int .i64 a,aN t Q,c⟩) (c+1)):=by
   simp only[HX,bP,b1 m,bT,IC d.h,ij g,r];exact jq d.h
  rw[i] at aH;simp only[J2,Is] at aH;obtain⟨rfl,_⟩:=s6 d.h aH;refine⟨_,n,Q,c,A.size,?_,E,by rw[Array.getElem?_push,bc br],j,aA⟩;simp only[J1,bP,b1 m,bT,IC d.h,ij g,r,J,jq d.h,b9];rfl
 obtain⟨f,n,i,j,aA⟩:=d.update (P:=P) m g a r B;rw[v] at i j aA|-;simp only[Jk,bK,Option.getD_some] at i j aA|-;have D:(Iw (((A[e]?).map (·.key)).getD (.int .i64 a)) (.int .i64 a)).run P w=.ok (.int .i64 a) w:=(by simp_all [Iw,JN]);have aH:(HX q (.map (bn b)) (.int .i64 a) (aN t p)).run P w=.ok () (de w b (A.modify e λk=>{k with key:=.int .i64 a,val:=aN t p}) c):=(by simp only[HX,bP,b1 m,bT,IC d.h,ij g,C,D];exact jq d.h);rw[i] at aH;simp only[J2,Is] at aH;obtain⟨rfl,_⟩:=s6 d.h aH;refine⟨_,n,p,o,e,?_,B,ab,j,aA⟩;have ak:(A.modify e λk=>{k with key:=.int .i64 a,val:=aN t p})=A.modify e λk=>{k with key:=.int .i64 a}:=wk λk R=>ab;have G:((A[e]?).map λN=>((N.born:bo):bt)).getD 0=(o:bt):=ab;simp only[J1,bP,b1 m,bT,IC d.h,ij g,C,D,jq d.h,b9,ak,G];rfl
theorem eK.zn (e:eK M w t b l c A L) {d:b5} {a:bt} (x:A[f]?=bn d) (ci:d.key=.int .i64 a) {r E:bC} {ad:ca} (v:P.underlying q=bn (.map r E)) (m:P.underlying r=bn (.int ad)) {D:t.den} (J:Q.length=t.size) (V:al M w t Q D []):∃i j,(Kv q (.map (bn b)) (.int .i64 (d.born:bt)) (aN t Q)).run P w=.ok () (de w b i (bif (eE l a).isSome then c else c+1))/\(∀{k:aZ},(∀B a,M B a->k B a/\a≠b)->k.t=M.t->eK k (de w b i (bif (eE l a).isSome then c else c+1)) t b (ho l a D) (bif (eE l a).isSome then c else c+1) i j)/\gr w (de w b i (bif (eE l a).isSome then c else c+1)) b:=by
 obtain⟨C,a0,y,bx⟩:=e.tM x;have cs:C.1=a:=ab;rcases e.find (P:=P) m a with⟨s,u,F⟩|⟨g,cv,dl,av,s,u,F,a4,bl,G⟩
 ·grind
 obtain rfl:g=f:=e.EW u y U;obtain⟨i,j,o,p,aA⟩:=e.update (P:=P) v m a J V;rw[s] at o p aA|-;simp only[Jk,bK] at o p aA|-;have S:(Iw (((A[g]?).map (·.key)).getD (.int .i64 a)) (.int .i64 a)).run P w=.ok (.int .i64 a) w:=(by simp_all [Iw,JN]);have aH:(HX q (.map (bn b)) (.int .i64 a) (aN t Q)).run P w=.ok () (de w b (A.modify g λd=>{d with key:=.int .i64 a,val:=aN t Q}) c):=(by simp only[HX,bP,b1 v,bT,IC e.h,ij m,G,S];exact jq e.h);rw[o] at aH;simp only[J2,Is] at aH;obtain⟨rfl,_⟩:=s6 e.h aH;refine⟨_,j,?_,p,aA⟩;have ak:(A.modify g λd=>{d with key:=.int .i64 a,val:=aN t Q})=A.modify g λd=>{d with val:=aN t Q}:=wk λa3 K=>ab;have N:A.findIdx? (λan=>(an.born:bt)==(d.born:bt))=bn g:=by
  rw[Array.findIdx?_eq_some_iff_getElem];have O:=(iR.1 x).1;refine⟨O,?_,λz ce co=>?_⟩
  ·grind
  have R:z<A.size:=U;obtain⟨am,ap,T,K⟩:=e.tM (n5 R);have bs:(A[z].born:bt)=(d.born:bt):=ab;have I:am.2.1=C.2.1:=ab;have:=e.EV T y I;omega
 have H:∀(n:bt) (w:bz),(asInt (.int .i64 n)).run P w=.ok n w:=λn w=>(by simp[asInt,asIntOf]);simp only[Kv,bP,b9,bT,IC e.h,H,N,jq e.h,ak];rfl
end
def j4 {f:Type} (tt:bp (bC×af)) (j:bp (bo×aj)) (i:bo) (h:bC) (m a:ag) (g:aL->bv f):bv f:=
 match m with
 |.ref id c=>match ah j id with
  |some b=>match gA tt h,a with
   |some l,.val (.int .i64) a=>match bm b.1 c with
    |some (
     .mp t)=>match hd t with
     |some e=>bif aD l t then
      (da b.1 b.2 c (.mp t)).bind λd=>(qb (α:=t.den) d a ((hQ d a).getD e)).bind λk=>(hc b.1 b.2 c (.mp t) k).bind λn=>
       g ⟨bn (i,.bb [.val t ((hQ (α:=t.den) d a).getD e),.fy id c a]),[id],[(id,c++[.deref])],[(id,⟨b.1,n⟩)]⟩
      else bq
     |none=>bq
    |_=>bq
   |_,_=>bq
  |none=>bq
 |_=>bq
def jR {b:Type} (tt:bp (bC×af)) (e:bp (bo×aj)) (d:bC) (k i j:ag) (c:aL->bv b):bv b:=
 match k,i with
 |.ref id a,.fy f h g=>bif bB f id&&g8 h a then ia tt e d (.ref id a) (.val (.int .i64) g) j c else bq
 |_,_=>bq
theorem be.fF:∀{p:bp ax} {τ:af} {f h:τ.den} {e:af} {g:e.den},be τ f p e g h->aX τ h p e g
 |[],τ,f,h,e,g,c=>by grind [aX.cO,be.cO]
 |s::p,τ,f,h,e,g,c=>by
  cases τ<;>cases s<;>simp only[be] at c
  case osl.idx t i=>
   obtain⟨j,d,l,c,rfl⟩:=c;have m:i<f.length:=(e5.1 l).1;exact⟨d,by rw[List.getElem?_set_self m],be.fF (p:=p) c⟩
  case opt.deref k t=>exact be.fF (p:=p) (τ:=t) c
  case st.unst t=>exact be.fF (p:=p) (τ:=t) c
  case nu.unn k t=>obtain⟨j,d,_,c,rfl⟩:=c;exact⟨d,br,be.fF (p:=p) (τ:=.opt k t) c⟩
  case pr.fst a b=>obtain⟨d,c,rfl⟩:=c;exact be.fF (p:=p) c
  case pr.snd a b=>obtain⟨d,c,rfl⟩:=c;exact be.fF (p:=p) c
def vJ:∀a:bp ax,eD (a++[.deref]) a=bu
 |[]=>rfl
 |s::a=>by cases s<;>exact vJ a
theorem An (id:bo) (a:bp ax):cS [id] [(id,a++[.deref])] (.ref id a)=.ref id a:=by
 have:gj [(id,a++[.deref])] (.ref id a)=bu:=by
  cases a with
  |nil=>simp[gj]
  |cons b a=>
   have:=vJ (b::a);simp_all [mY,List.any_nil,JT,lz,JW,gj]
 show cI _ _ _=_;unfold cI;rw[show fO [id] [(id,a++[.deref])] (.ref id a)=gj [(id,a++[.deref])] (.ref id a) from rfl,this];simp
def Ca {b:bp (bo×ag)} {id:bo} (a:aw b m=.ref id o):aw (kill [id] [(id,o++[.deref])] b) m=.ref id o:=by
 cases m with
 |tmp d=>
  have a:gt b d=.ref id o:=a;have c:=jf [id] [(id,o++[ax.deref])] b d;rw[a] at c;exact c.trans (An id o)
 |const e=>exact absurd a (by cases e<;>simp[aw])
 |global b|func f=>cases a
section
variable {E:cG} {C:a6} {st:aq} {o:bJ} {Q:aq->Prop}
theorem A0 {a:Act} {k:aW} (o:aK C i a.tmps p k w x) {id:bo} {j:bp ax} (u:aw i.g m=.ref id j) (d:ah i.h id=bn P) {t:af} {I:bp (bt×t.den)} (A:aX P.1 P.2 j (.mp t) (bn (I,f))) {b:bo} (G:a.eval m=.map (bn b)) {l:bN b5} (E:p.heap[b]?=bn (.map l f)) {H:bo} {c:b5} (D:l[H]?=bn c) {n:bt} (y:c.key=.int .i64 n):aJ (az k C.B) p i.h w x (.fy id j n) (.int .i64 (c.born:bt)):=by
 have e:=o.aw (a:=a) m;rw[u,G] at e;generalize O:Ix (bn b)=T at e;cases e with|ref r q=>
 rename_i S U R L;rw[d] at r;obtain rfl:=c6 r;obtain⟨rfl,N,F,_,z⟩:=o.fF d A q;rcases F.sC with⟨c,_⟩|⟨s,Q,K,M,J,_,rfl,rfl,_⟩
 ·cases c
 have v:b=s:=(by grind [aN]);subst v;exact .fy d q (z b aa) (hR.2 E) D y
theorem A1 {ad:a} {y:aL->bv a} (d0:o.op=.mapEntry q N m) (bx:o.dst=bn f) (bs:C.ok f) (d:j4 E.tt st.h f q (aw st.g N) (aw st.g m) y=bn ad):ba E C o st (λx=>∃F,y F=bn ad/\x=F.app st):=by
 rintro k w ⟨r,gf,f6,s⟩ next f5 ds
 have u:=s.aw N;have e:=s.aw m;unfold j4 at d;split at d
 case h_2=>cases d
 rename_i id d8 H;split at d
 case h_2=>cases d
 rename_i ap R;split at d
 case h_2=>cases d
 rename_i ft n bl a3;obtain⟨f3,a0,fn,fp,fs⟩:=gA.ok bl;split at d
 case h_2=>cases d
 rename_i t d3;split at d
 case h_2=>cases d
 rename_i fx d4;cases O:aD ft t with
 |false=>grind
 |true=>
 rw[O] at d;simp only[bK] at d;obtain⟨d7,co,i⟩:=a1.1 d;obtain⟨ge,p,j⟩:=a1.1 i;obtain⟨an,U,I⟩:=a1.1 j;clear d i j;cases d7 with
 |none=>cases p
 |some d9=>
 obtain⟨l,c⟩:=d9;rw[H] at u;rw[a3] at e;generalize T:k.eval N=gl at u;generalize cv:k.eval m=gc at e;cases e with|val eq=>
 obtain⟨_,rfl⟩:=eq;cases u with|ref S Q=>
 rw[R] at S;cases S;obtain⟨b,A,L,rfl,f7,K,J,ci⟩:=s.qc R Q (eH co);have:=Q.ty;rw[d3] at this;cases this;obtain⟨f9,f2,fz,fT,f0,f1⟩:=mQ (fs.lay O) d4;have d5:∀w,(cr a0).run E.P w=.ok (aN t f2.cells.toList) w:=λw=>(by rw[<-f0];simp[cr,cC,fz,fT]);have V:=f1 (az r C.B) w;obtain⟨G,f4,D,x,f8,el,em,aA,aH,cP⟩:=J.entry (P:=E.P) fn fp n V.len V d5;have dl:hQ (α:=t.den) (bn (l,c)) n=eE l n:=rfl;rw[dl] at p I;simp only[qb,aV] at p;subst p;generalize(bif (eE l n).isSome then c else c+1)=z at*;generalize(eE l n).getD fx=am at*;obtain⟨ex,a4,M⟩:=ci (aH (λv m e=>⟨e,K v m e⟩) rfl) cP (hw U);have d2:(bF k.eval o).run E.P w=.ok (.value (.tuple #[aN t D,goInt ((x:bo):bt)])) (de w b G z):=(by simp only[bF,d0,T,cv,bP];have this:∀t:af,aN (.mp t) [Ix (bn b)]=.map (bn b):=λ_=>rfl;rw[this,show aN (.int .i64) [b0 .i64 n]=.int .i64 n from rfl,el];rfl);unfold cc;rw[d2];show next (k.put o.dst _) _
 rw[bx];have cs:ah ((id,(⟨ap.1,an⟩:aj))::del [id] st.h) id=bn ⟨ap.1,an⟩:=(by rw[aU,bc br]);have d1:al (az r C.B) (de w b G z) t D am []:=em.mono (λv m e=>⟨e,qB (K v m e)⟩) aa;have ce:=A0 M (Ca H) cs (be.fF (hw U)) T (ik J.h) aA (n:=n) rfl;refine ds _ _ _ ⟨_,I,?_⟩ rfl ⟨r,ex,a4,M.put bs (av:=.bb [.val t am,.fy id d8 n]) ?_⟩
 ·rfl
 refine .bb br (λd6 av gh i j=>?_)
 match d6 with
 |0=>simp at i j;subst i;subst j;exact .val d1
 |1=>simp at i j;subst i;subst j;exact ce
 |n+2=>grind
theorem zq {K:a} {v:aL->bv a} {j:bH} (fx:o.op=.entryStore q j m N) (a0:o.dst=bq) (d:jR E.tt st.h q (aw st.g j) (aw st.g m) (aw st.g N) v=bn K):ba E C o st (λm=>∃x,v x=bn K/\m=x.app st):=by
 rintro e w ⟨O,f4,fp,f⟩ next fn ce
 have u:=f.aw j;have p:=f.aw m;have s:=f.aw N;unfold jR at d;split at d
 case h_2=>cases d
 rename_i id d3 dl d4 d2 U S;cases i:(bB dl id&&g8 d4 d3) with
 |false=>grind
 |true=>
 rw[i] at d;rw[aC] at i;obtain rfl:=a7 i.1;obtain rfl:=g8.ok i.2;simp only[bK] at d;unfold ia at d;simp only at d;split at d
 case h_2=>cases d
 rename_i gh r;split at d
 case h_2=>cases d
 rename_i el f2 gf gc ap z T;simp only[ag.val.injEq,heq_eq_eq,Is] at z;subst z;obtain⟨em,ex,d8,d9,f6⟩:=gA.ok ap;split at d
 case h_2=>cases d
 rename_i t co;cases av:aD el t with
 |false=>grind
 |true=>
 rw[av] at d;simp only[bK] at d;split at d
 case h_2=>cases d
 rename_i f9 cs;obtain⟨d1,a4,B⟩:=a1.1 d;obtain⟨f1,k,D⟩:=a1.1 B;obtain⟨ge,cv,ad⟩:=a1.1 D;clear d B D;cases d1 with
 |none=>cases k
 |some d5=>
 obtain⟨l,c⟩:=d5;cases fL cs;rw[U] at u;rw[S] at p;rw[T] at s;generalize f0:e.eval j=f8 at u;generalize fz:e.eval m=f5 at p;generalize fT:e.eval N=f7 at s;cases s with|val M=>
 cases p with|fy J bx fs H bl bs=>
 rw[r] at J;cases J;cases u with|ref I n=>
 rw[r] at I;cases I;obtain⟨b,A,L,rfl,ft,am,F,a3⟩:=f.qc r n (eH a4);have:=n.ty;rw[co] at this;cases this;obtain⟨ak,_,y⟩:=n.fM bx;simp only[eQ,Value.map.injEq,aV,b2] at y;subst y;rw[hR.2 F.h] at H;cases H;obtain⟨R,eq,f3,d6,aA⟩:=F.zn (P:=E.P) bl bs d8 d9 M.len M;simp only[qb,aV] at k;subst k;generalize(bif (eE l d2).isSome then c else c+1)=Q at*;obtain⟨d7,V,an⟩:=a3 (d6 (λd0 ds G=>⟨G,am d0 ds G⟩) rfl) aA (hw cv);unfold cc;have ci:(bF e.eval o).run E.P w=.ok .skip (de w b R Q):=(by have this:∀t:af,aN (.mp t) [Ix (bn b)]=.map (bn b):=λ_=>rfl;simp_all [bP,bF]);rw[ci];show next (e.put o.dst bL) _
 rw[a0];refine ce _ _ _ ⟨_,ad,?_⟩ rfl ⟨O,d7,V,an⟩;rfl
end
end
section
structure x6 where
 c:b7
 n:bo
 pin:bv ei
 ds:ei
 α:Type
 f:aq->bv α
 g:aq->α->aq
structure cU where
 tt:bp (bC×af)
 nY:bp (bo×eM)
 an:bp (bo×af)
 n:bo
 pin:ei
 kg:bp (bo×ag)
 je:ej
 EB:bv dJ
 zA:dZ
 HW:bp x6
 vt:bp lD
 eq:dZ
 fx:bA
def mW (b:bQ) (c:bC):Prop:=∃a e d,b.info? c=bn a/\a.size=1/\a.zero=bn e/\e.cells.size=1/\b.underlying c=bn d/\(match d with|.struct _|.array _ _=>bu|_=>bw)=bw
def j9:cN->bA
 |.mg bu _|.d _ _ _=>bw
 |_=>bu
def qm {r:Type}:∀{ps:bp cN} {a:c8 ps} {b:eW ps r},(bd ps a b).all lg=ps.all j9
 |[],_,_=>rfl
 |p::e,a,b=>by have d:=λa b=>qm (r:=r) (ps:=e) (a:=a) (b:=b);cases p<;>simp only[bd,fX,d]<;>first|rfl|(rename_i c _;cases c<;>rfl)
def wo:∀{as:bp aT},as.all lg=bu->jn as=as.length
 |[],_=>rfl
 |a::as,b=>by simp only[fX,aC] at b;have c:=wo b.2;have e:=b.1;cases a<;>first|(simp only[jn,c,gU];done)|(rename_i d _ _;cases d<;>first|(simp only[jn,c,gU];done)|cases e)
def uU {avs0:bp ag} {args0:bp aT}:∀{as:bp aT} {xs:bp ag},as.all lg=bu->kO avs0 args0 as xs=bu
 |[],_,_=>rfl
 |a::as,[],_=>by cases a<;>rfl
 |a::as,e::xs,b=>by simp only[fX,aC] at b;have d:=uU (avs0:=avs0) (args0:=args0) (xs:=xs) b.2;have c:=b.1;cases a<;>first|exact d|cases c
theorem fB.len {d:ei} {b:bp (bo×aj)}:∀{as:bp ag} {c:bp aT},fB b d as c->as.length=c.length
 |[],[],_=>rfl
 |[],_::_,b=>b.elim
 |a::as,[],b=>by cases a<;>exact b.elim
 |a::as,e::c,b=>by simp[fB.len b.2]
def ba.yG {E:cG} {C:a6} {a p:bN _} (z:k.op=.call {callee:=.value m,args:=a,argTypes:=p}) (F:aw i.g m=.aR n O) (w:k.dst=bn f) (x:C.ok f) (u:∀(l:dY) (o:bz),(H0 n l).run E.P o=.ok (.enter n l) o) {d:bp aj} (t:jz E n V d) (D:ha 0 V=bq) (r:∀b,C.I0 b\/C.B b->b<C.w0.heap.size/\¬C.F0 b) (s:gu E C.I0 C.w0) (j:V.all lg=bu) (e:fB i.h (cY (a.toList.map (aw i.g)++O) V) (a.toList.map (aw i.g)++O) V) (y:g1 f i (a.toList.map (aw i.g)++O) V d=bu) (q:v (rk f i (a.toList.map (aw i.g)++O) V d)):ba E C k i v:=by have c:a.toList.map (aw i.g)++O++[]=a.toList.map (aw i.g)++O:=List.append_nil _;refine ba.call (gh:=[]) z F w x u t D r s aa ?_ (by rw[c];exact uU j) (by rw[c];exact e) (by rw[c];exact y) (L:=[]) (λG A=>by cases A) (by rw[c];exact q);rw[wo j,<-e.len,pe,jA,Array.length_toList]
def nr:bp cN->bp ag->bA
 |.c d _::a,.aR b _::as=>bB b d&&nr a as
 |.c _ _::_,_=>bw
 |_::a,_::as=>nr a as
 |_,_=>bu
def ji:bp (bo×eM)->bo->bp ag->bv eM
 |[],_,_=>bq
 |(k,F)::l,f,as=>bif bB k f&&(nr F.ps as&&((e1 0 F.ps).isNone&&F.ps.all j9)) then bn F else ji l f as
theorem sr:∀{e:bp (bo×eM)} {c:bo} {as:bp ag} {b:eM},ji e c as=bn b->∃d,(d,b)∈e
 |[],_,_,_,a=>by cases a
 |(d,G)::e,c,as,b,a=>by
  simp only[ji] at a;cases f:(bB d c&&(nr G.ps as&&((e1 0 G.ps).isNone&&G.ps.all j9))) with
  |true=>grind
  |false=>
   rw[f] at a;obtain⟨h,g⟩:=sr a;grind
theorem ss:∀{d:bp (bo×eM)} {c:bo} {as:bp ag} {b:eM},ji d c as=bn b->e1 0 b.ps=bq
 |[],_,_,_,a=>by cases a
 |(k,G)::d,c,as,b,a=>by
  simp only[ji] at a;cases e:(bB k c&&(nr G.ps as&&((e1 0 G.ps).isNone&&G.ps.all j9))) with
  |true=>
   simp_all
  |false=>
   rw[e] at a;exact ss a
theorem su:∀{d:bp (bo×eM)} {c:bo} {as:bp ag} {b:eM},ji d c as=bn b->b.ps.all j9=bu
 |[],_,_,_,a=>by cases a
 |(k,G)::d,c,as,b,a=>by
  simp only[ji] at a;cases e:(bB k c&&(nr G.ps as&&((e1 0 G.ps).isNone&&G.ps.all j9))) with
  |true=>
   simp_all
  |false=>
   rw[e] at a;exact su a
def lY (ic:cU) (a:hM) (b:a.den):aq:=⟨ic.kg++h2 a.g b,lX a.h (lZ a.g b)⟩
def cW (b:bo) (c:ei) (a:bo):bA:=b3 a b&&!(a5 a c)
def ak (ic:cU) {A:Type} (a:bH->ag) (g:bp (bo×aj)) (r:bJ) (c:aL->bv A):bv A:=
 match r.dst with
 |none=>match r.op with
  |.store d e v=>kf ic.tt g d (a e) (a v) c
  |.mapUpdate d e o v|.insert d e o v=>ia ic.tt g d (a e) (a o) (a v) c
  |.entryStore d e F v=>jR ic.tt g d (a e) (a F) (a v) c
  |.call {callee:=.builtin .delete,args:=xs,argTypes:=s}=>match xs.toList,s.toList with
   |[e,o],[d,_]=>j3 ic.tt g d (a e) (a o) c
   |_,_=>bq
  |_=>bq
 |some b=>
  bif cW ic.n ic.pin b then
  match r.op with
  |.pick y e i=>match a y with
   |.val .bool j=>(match a e,a i with
    |.val k u,.val H v=>match eV (τ:=H) k v with
     |some v=>c ⟨bn (b,.val k (bif j then u else v)),[],[],[]⟩
     |none=>bq
    |u,v=>match j with
     |true=>c ⟨bn (b,u),[],[],[]⟩
     |false=>c ⟨bn (b,v),[],[],[]⟩)
   |_=>bq
  |.call {callee:=.value z,args:=xs,argTypes:=_}=>match a z with
   |.aR l m=>
    match ji ic.nY l (xs.toList.map a++m) with
    |none=>bq
    |some h=>bif bB h.f l then
     fj g (jw (xs.toList.map a++m) h.ps) h.ps (xs.toList.map a++m) λq=>(h.sem q).bind λj=>bif g1 b ⟨[],g⟩ (xs.toList.map a++m) (bd h.ps q j) (eO h.rs (eI h.ps j)) then
      c ⟨bn (b,ll b (eO h.rs (eI h.ps j))),cY (xs.toList.map a++m) (bd h.ps q j),k2 (fR (xs.toList.map a++m) (bd h.ps q j)),fH (xs.toList.map a++m) (bd h.ps q j)++fh b (fg (eO h.rs (eI h.ps j))) 0 (eO h.rs (eI h.ps j))⟩ else bq
     else bq
   |_=>bq
  |.call {callee:=.builtin .append,args:=xs,argTypes:=s}=>match xs.toList,s.toList with
   |[e,i],[d,x]=>bif bB d x then h1 ic.tt ic.an g b d (a e) (a i) c else bq
   |_,_=>bq
  |.call {callee:=.builtin .copy,args:=xs,argTypes:=s}=>match xs.toList,s.toList with
   |[e,i],[d,_]=>jO ic.tt g b d (a e) (a i) c
   |_,_=>bq
  |.assign e=>match a e with
   |.val k i=>c ⟨bn (b,.val k i),[],[],[]⟩
   |.aR l m=>c ⟨bn (b,.aR l m),[],[],[]⟩
   |.addr id E=>c ⟨bn (b,.addr id E),[],[],[]⟩
   |.aS v=>match ah ic.an b with
    |none=>c ⟨bn (b,.aS v),[],[],[]⟩
    |some k=>match k.pure&&ja k v with
     |true=>(eZ k v.cells.toList).bind λi=>c ⟨bn (b,.val k i),[],[],[]⟩
     |false=>(i7 ic.an g b (.aS v)).bind c
   |v=>(i7 ic.an g b v).bind c
  |.build d w=>kJ ic.tt ic.an g a b d w.toList c
  |.mapEntry d e o=>j4 ic.tt g b d (a e) (a o) c
  |.box d e=>lL ic.tt ic.an g b d (a e) c
  |.buildSlice d C w=>kL ic.tt ic.an g a b d C w.toList c
  |_=>match gg ic.tt ic.an g a b r.op with
   |.bk t=>c ⟨bn (b,t),[],[],[]⟩
   |.opt _ i l=>i.bind λp=>c ⟨bn (b,l p),[],[],[]⟩
   |.new _ i G B=>bif bB B b then i.bind λp=>c ⟨bn (b,.ref b []),[],[],[(b,G p)]⟩ else bq
   |.no=>match eA ic.tt ic.an g a b r.op with
    |.bk t D=>c ⟨bn (b,t),[],[],D⟩
    |.part _ I l=>(pick I).bind λp=>c ⟨bn (b,(l p).1),[],[],(l p).2⟩
    |.bad=>bq
  else bq
def hN (b:bp (bo×aj)) (a:ei):bA:=a.all λid=>match ah b id with|some c=>r2 c.1|none=>bw
def fQ (ic:cU) {A:Type} (e:bH->ag) (b:bp (bo×aj)) (c:bJ) (f:aL->bv A):bv A:=
 match hk ic.je (l3 c) e (kh c.op) with
 |[]=>ak ic e b c f
 |F=>bif hN b F then ak ic (λh=>e9 b F (e h)) (del F b) c λa=>bif a.keep.all (λg=>!a5 g.1 F) then f ⟨a.d,F++a.S,a.keep,a.put⟩ else bq else bq
def h8:cN->bA
 |.mg bw _=>bu
 |_=>bw
def s9 (ic:cU) (a:bH->ag) (e:bJ):bv (bo×bp ax):=match e.op with
 |.call {callee:=.value z,args:=xs,argTypes:=_}=>match a z with
  |.aR d b=>match ji ic.nY d (xs.toList.map a++b) with
   |some c=>lo (xs.toList.map a++b) (c.ps.map h8)
   |none=>bq
  |_=>bq
 |_=>bq
def rS (ic:cU) {A:Type} (id:bo) (k:ax) (j:bp ax) (c:bH->ag) (l:bp (bo×aj)) (p:bJ) (r:aL->bv A):bv A:=
 match p.dst with
 |none=>bq
 |some g=>
  bif cW ic.n ic.pin g then
  match p.op with
  |.call {callee:=.value m,args:=xs,argTypes:=_}=>match c m with
   |.aR o d=>
    match ji ic.nY o (xs.toList.map c++d) with
    |none=>bq
    |some a=>
     bif bB a.f o then
     match ah l id with
     |none=>bq
     |some h=>match bm h.1 (k::j) with
      |none=>bq
      |some i=>match da h.1 h.2 (k::j) i with
       |none=>bq
       |some q=>
        match cH ((id,⟨i,q⟩)::del [id] l) (jw (hx id (xs.toList.map c++d) (a.ps.map h8)) a.ps) a.ps (hx id (xs.toList.map c++d) (a.ps.map h8)) with
        |none=>bq
        |some e=>(a.sem e).bind λb=>bif g1 g ⟨[],(id,⟨i,q⟩)::del [id] l⟩ (hx id (xs.toList.map c++d) (a.ps.map h8)) (bd a.ps e b) (eO a.rs (eI a.ps b))&&(a5 id (cY (hx id (xs.toList.map c++d) (a.ps.map h8)) (bd a.ps e b))&&a5 id (fR (hx id (xs.toList.map c++d) (a.ps.map h8)) (bd a.ps e b))) then
         match ah (fH (hx id (xs.toList.map c++d) (a.ps.map h8)) (bd a.ps e b)++fh g (fg (eO a.rs (eI a.ps b))) 0 (eO a.rs (eI a.ps b))) id with
         |none=>bq
         |some s=>match eV i s.2 with
          |none=>bq
          |some t=>(hc h.1 h.2 (k::j) i t).bind λm=>
           r ⟨bn (g,ll g (eO a.rs (eI a.ps b))),cY (hx id (xs.toList.map c++d) (a.ps.map h8)) (bd a.ps e b),(id,k::j)::k2 (fR (hx id (xs.toList.map c++d) (a.ps.map h8)) (bd a.ps e b)),(id,⟨h.1,m⟩)::(fH (hx id (xs.toList.map c++d) (a.ps.map h8)) (bd a.ps e b)++fh g (fg (eO a.rs (eI a.ps b))) 0 (eO a.rs (eI a.ps b)))⟩
         else bq
     else bq
   |_=>bq
  |_=>bq
  else bq
def sH (ic:cU) (b:bH->ag) (c:bJ):bv dS:=match c.dst,c.op with
 |some a,.binOp .eql d e g _=>match ew ic.tt d,b e,b g with
  |some _,.val (.au _ h) f,.aS (.slice bq 0 0)=>bif cW ic.n ic.pin a then bn (a,cz (α:=h.den) f) else bq
  |_,_,_=>bq
 |_,_=>bq
def vI (tt:bp (bC×af)) (a:bC):bA:=match ah tt a with|some (.ptr _ _)=>bu|some (.opt _ _)=>bu|some (.nu _ _)=>bu|some .aM=>bu|_=>bw
def sG (d:bp (bo×aj)):ag->bv bA
 |.val (.ptr _ a) b=>bn (Option.isNone (α:=a.den) b)
 |.val .aM c=>bn (!(c:bA))
 |.aS b=>match b with
  |.pointer bq=>bn bu
  |_=>bq
 |.ref id e=>match ah d id with
  |some a=>match bm a.1 e with
   |some (.opt _ _)=>bn bw
   |_=>bq
  |none=>bq
 |_=>bq
def oJ:af->bA
 |.nil=>bu
 |.pr (.int _) a=>oJ a
 |_=>bw
def kS:(a:af)->a.den->a.den->bA
 |.pr (.int _) d,b,c=>((b.1:bt)==(c.1:bt))&&kS d b.2 c.2
 |_,_,_=>bu
def pM (ic:cU) (e:bH->ag) (f:bJ):bv (bo×bA):=match f.dst,f.op with
 |some d,.binOp .eql c i j _=>match ah ic.tt c,e i,e j with
  |some h,.val (.st a) g,.val k b=>bif a5 c ic.eq&&(oJ a&&(aD h (.st a)&&cW ic.n ic.pin d)) then(eV (τ:=k) (.st a) b).map λb=>(d,kS a g b) else bq
  |_,_,_=>bq
 |_,_=>bq
def oZ (ic:cU) (c:bH->ag) (f:bp (bo×aj)) (d:bJ):bv (bo×bA):=match d.dst,d.op with
 |some a,.binOp g e h i _=>match vI ic.tt e,sG f (c h),c i with
  |true,bn b,.aS (.pointer bq)=>bif cW ic.n ic.pin a then(match g with
   |.eql=>bn (a,b)
   |.neq=>bn (a,!b)
   |_=>bq) else bq
  |_,_,_=>bq
 |_,_=>bq
def ta (ic:cU) (f:bH->ag) (d:bJ):bv (bo×lD×bt):=match d.dst,d.op with
 |some c,.indexAddr e (.global h) g=>match ic.vt.find? (λa=>bB a.b h&&bB a.T e),f g with
  |some a,.val (.int _) i=>bif cW ic.n ic.pin c then bn (c,a,i) else bq
  |_,_=>bq
 |_,_=>bq
def sj:ag->bA
 |.val .aM a=>(a:bA)
 |_=>bw
def nZ (a:bp (bo×aj)):bp (bo×aj)->bv ag
 |[]=>bq
 |(c,_)::r=>match ah a c with
  |some b=>match lp 2 b.1 with
   |some (d,e)=>bif (da b.1 b.2 d (.opt 2 e)).isSome then bn (.ref c d) else nZ a r
   |none=>nZ a r
  |none=>nZ a r
def sa (c:bp (bo×aj)):ag->bA
 |.ref d b=>match ah c d with
  |some a=>match bm a.1 b with
   |some (.opt 2 e)=>(da a.1 a.2 b (.opt 2 e)).isSome
   |_=>bw
  |none=>bw
 |_=>bw
def mL (a:aq):dX->bp (bo×ag)
 |[]=>[]
 |.tmp c::b=>bif sj (gt a.g c) then(match nZ a.h a.h with
  |some d=>(c,d)::mL a b
  |none=>mL a b) else mL a b
 |_::b=>mL a b
def mJ (a:aq):dX->bp (bo×ag)
 |[]=>[]
 |.tmp c::b=>bif sa a.h (gt a.g c) then(c,.val .aM bu)::mJ a b else mJ a b
 |_::b=>mJ a b
def oP:bp (bo×eM)->bo->bv eM
 |[],_=>bq
 |(k,F)::l,f=>bif bB k f&&(bB F.f f&&((e1 0 F.ps).isNone&&!(F.ps.all j9))) then bn F else oP l f
def sb:bp cN->dX->dX
 |.v .aM::a,c::b=>c::sb a b
 |_::a,_::b=>sb a b
 |_,_=>[]
def z2 (ic:cU) (d:aq) (a:Call):dX:=match a.callee with
 |.value e=>match aw d.g e with
  |.aR c _=>match oP ic.nY c with
   |some b=>sb b.ps a.args.toList
   |none=>[]
  |_=>[]
 |_=>[]
def wY (ic:cU) (c:bJ) (a:aq):aq:=match c.op with
 |.call b=>⟨mJ a (z2 ic a b)++(mL a b.args.toList++a.g),a.h⟩
 |.build _ d=>⟨mJ a (d.toList.map (·.2))++a.g,a.h⟩
 |.store _ f e=>bif ic.fx then a else sF a (aw a.g f) (aw a.g e)
 |_=>a
def sW (ic:cU) (b:bJ) (a:aq):aq:=wY ic b (bif ic.fx then a else nL a a.h)
def vp:bp cN->bp ag->eb
 |.d _ _ _::_,.ref id _::_|.d _ _ _::_,.addr id _::_=>bn id
 |_::a,_::as=>vp a as
 |_,_=>bq
def vq:bp (bo×aj)->eb
 |[]=>bq
 |(a,t)::r=>bif hn t.1 then bn a else vq r
def iI (b:bp (bo×aj)) (a:bp cN) (as:bp ag):bp ag:=match(vp a as).or (vq b) with
 |some id=>a.filterMap λc=>match c with
  |.mg bu _=>bn (.ref id [])
  |_=>bq
 |none=>[]
def kZ (a:bp (bo×aj)):bp ag->bA
 |[]=>bu
 |.ref id []::b=>(ah a id).isSome&&kZ a b
 |_=>bw
def r5 (ic:cU) (a:bH->ag) (c:bJ):bv (bo×bo×bp ag×eM):=match c.dst,c.op with
 |some d,.call {callee:=.value z,args:=xs,argTypes:=_}=>match a z with
  |.aR f b=>match oP ic.nY f with
   |some e=>bif cW ic.n ic.pin d then bn (d,xs.size+b.length,xs.toList.map a++b,e) else bq
   |none=>bq
  |_=>bq
 |_,_=>bq
def rR (b:bp (bo×aj)) {A:Type} (e g:bo) (as:bp ag) (a:eM) (f:aL->bv A):bv A:=
 fj b (jw (as++iI b a.ps as) a.ps) a.ps (as++iI b a.ps as) λd=>(a.sem d).bind λc=>
  bif g1 e ⟨[],b⟩ (as++iI b a.ps as) (bd a.ps d c) (eO a.rs (eI a.ps c))&&(bB (jn (bd a.ps d c)) g&&(oG (as++iI b a.ps as) (bd a.ps d c)&&kZ b (iI b a.ps as))) then
   f ⟨bn (e,ll e (eO a.rs (eI a.ps c))),cY (as++iI b a.ps as) (bd a.ps d c),k2 (fR (as++iI b a.ps as) (bd a.ps d c)),fH (as++iI b a.ps as) (bd a.ps d c)++fh e (fg (eO a.rs (eI a.ps c))) 0 (eO a.rs (eI a.ps c))⟩ else bq
def j0:bp cN->bp ag->ag->bA
 |.d _ _ bw::b,c::as,a=>gZ a c||j0 b as a
 |.mg bu g::b,.ref e []::as,a=>(hn g&&match a with
  |.addr id (.deref::f)=>bB id e&&pP f
  |_=>bw)||j0 b as a
 |_::b,_::as,a=>j0 b as a
 |_,_,_=>bw
def rO (c:bo) (b:aq) (d:bp cN) (as:bp ag):bp (bo×ag):=b.g.filterMap λa=>bif bB a.1 c then bq else bif j0 d as (gt b.g a.1) then bn (a.1,gt b.g a.1) else bq
def sc (ic:cU) {A:Type} (a:aq) (c:bJ) (d:aq->bv A):bv A:=
 match ta ic (aw a.g) c with
 |some (b,j,f)=>(c7 j.xs f).bind λo=>d ⟨(b,.val (.ptr .aE (.int j.k)) (bn o))::a.g,a.h⟩
 |none=>match(oZ ic (aw a.g) a.h c).or (pM ic (aw a.g) c) with
 |some (b,l)=>d ⟨(b,.val .bool l)::a.g,a.h⟩
 |none=>match sH ic (aw a.g) c with
 |some (b,f)=>oT f (d ⟨(b,.val .bool bu)::a.g,a.h⟩) (d ⟨(b,.val .bool bw)::a.g,a.h⟩)
 |none=>match r5 ic (aw a.g) c with
 |some (b,f,as,i)=>rR a.h b f as i λe=>d ⟨rO b a i.ps (as++iI a.h i.ps as)++(e.app a).g,(e.app a).h⟩
 |none=>match s9 ic (aw a.g) c with
  |some (id,n::m)=>rS ic id n m (aw a.g) a.h c λe=>d (e.app a)
  |_=>fQ ic (aw a.g) a.h c λe=>d (e.app a)
def i1 (ic:cU) {A:Type} (c:aq) (a:bJ) (b:aq->bv A):bv A:=sc ic (sW ic a c) a b
def gi (ic:cU) {A:Type} (c:bN bJ):ei->aq->(aq->bv A)->bv A
 |[],a,b=>b a
 |i::e,a,b=>match c[i]? with
  |none=>bq
  |some f=>match f.guard with
   |none=>i1 ic a f λk=>gi ic c e k b
   |some (
    l,lq)=>match(c[l]?).bind (·.dst),f.dst with
    |some j,bn d=>match gt a.g j with
     |.val .bool m=>bif cW ic.n ic.pin d then
      (match m==lq with
      |true=>i1 ic ⟨(j,.val .bool lq)::a.g,a.h⟩ f λk=>gi ic c e k b
      |false=>gi ic c e ⟨(d,.aS bL)::(j,.val .bool (!lq))::a.g,a.h⟩ b) else bq
     |.aS (.tuple _)=>bif cW ic.n ic.pin d then gi ic c e ⟨(d,.aS bL)::a.g,a.h⟩ b else bq
     |_=>bq
    |_,_=>bq
section
variable {E:cG} {C:a6} {ic:cU} {A:Type}
def cU.fu (E:cG) (C:a6) (ic:cU):Prop:=ic.tt=E.tt/\ic.n=C.n/\ic.pin=C.pin/\((∀b∈ic.nY,aO E b.2)/\lC C ic.EB/\(∀a∈ic.zA,mW E.P a)/\gu E C.I0 C.w0/\ic.vt=E.glob/\ic.eq=E.eqs/\ic.fx=C.fx)/\iT C ic.kg
theorem cW.ok (b:ic.fu E C) {d:bo} (a:cW ic.n ic.pin d=bu):C.ok d:=by obtain⟨_,c,e,_,_⟩:=b;rw[c,e] at a;simp only[cW,aC] at a;exact⟨c5 a.1,λf=>by grind [ey]⟩
def cV.same {e:dY} {d:aq} (l:∀b,gt d.g b=gt i.g b) (c:d.h=i.h) (k:cV C i e p):cV C d e p:=by obtain⟨f,m,j,a⟩:=k;exact⟨f,m,j,{a with tree:=by rw[c];exact a.tree,dis:=by rw[c];exact a.dis,tmp:=λb=>by rw[c,l];exact a.tmp b}⟩
def ff.same {f:bN bJ} {e:ei} {a b:aq} {c:aq->Prop} (l:∀d,gt b.g d=gt a.g d) (m:b.h=a.h) (j:ff E C f e b c):ff E C f e a c:=
 λi n k=>j i n (k.same l m)
def aL.q8 {a:ei}:(aL.mk (bn (f,e)) a u c).app i=⟨(f,e)::kill a u i.g,c++del a i.h⟩:=by show aq.mk ((f,e)::hP a u i.g) (c++jP a i.h)=_;rw[k1,nm]
theorem u1 (L:ic.fu E C) {st:aq} {o:aL->bv A} {s:A} (a:ak ic (aw st.g) st.h k o=bn s):ba E C k st (λv=>∃c,o c=bn s/\v=c.app st):=by
 obtain⟨B,em,eq,d1,_⟩:=id L;unfold ak at a;split at a
 ·rename_i i;split at a
  ·grind [EH,EG]
  ·grind [wn]
  ·rename_i p b am av e;rw[B] at a;exact wn (.inr e) i a
  ·grind [zq]
  ·rename_i x H e;split at a
   case h_2=>cases a
   rename_i b am p a4 ak S;rw[B] at a;obtain rfl:x=#[b,am]:=ab;obtain rfl:H=#[p,a4]:=ab;grind [AU]
  grind
 rename_i z i;cases V:cW ic.n ic.pin z with
 |false=>grind
 |true=>
 rw[V] at a;have j:=cW.ok L V;simp only[bK] at a;split at a
 ·rename_i d8 b m e;split at a
  case h_2=>cases a
  rename_i q K;have d9:∀y,(q=bu->y=aw st.g b)->(q=bw->y=aw st.g m)->o ⟨bn (z,y),[],[],[]⟩=bn s->ba E C k st (λv=>∃c,o c=bn s/\v=c.app st):=by
   clear a;intro y ci co u;refine H1 (an:=ic.an) i j ?_;rw[e];simp only[eA,qk,K];refine⟨q,br,_,u,?_⟩;cases q
   ·rw[co br];rfl
   rw[ci br];rfl
  split at a
  ·rename_i d7 fx fT av ex ad;split at a
   case h_2=>cases a
   rename_i d6 d2;cases fL d2;grind
  grind
 ·rename_i fz x _ e;split at a
  case h_2=>cases a
  rename_i J ap d4;split at a
  ·cases a
  rename_i I T;cases r:bB I.f J with
  |false=>grind
  |true=>
  rw[r] at a;obtain rfl:=a7 r;simp only[bK,gM] at a;obtain⟨d,el,a⟩:=a1.1 a;obtain⟨q,d0,a⟩:=a1.1 a;cases K:g1 z ⟨[],st.h⟩ (x.toList.map (aw st.g)++ap) (bd I.ps d q) (eO I.rs (eI I.ps q)) with
  |false=>grind
  |true=>
  rw[K] at a;obtain⟨fn,ds⟩:=sr T;obtain⟨cv,dl⟩:=d1.1 _ ds;refine ba.yG e d4 i j cv (dl d q d0) (by grind [ss,mD]) L.2.2.2.2.1 L.2.2.2.1.2.2.2.1 (by rw[qm];exact su T) ?_ K ⟨_,a,?_⟩
  ·grind [h5,qE]
  rw[aL.q8];rfl
 ·rename_i x H e;split at a
  case h_2=>cases a
  rename_i b m p N ak S;cases r:bB p N with
  |false=>grind
  |true=>
  rw[r] at a;obtain rfl:=a7 r;have bs:x=#[b,m]:=ab;have bx:H=#[p,p]:=ab;grind [yi]
 ·rename_i x H e;split at a
  case h_2=>cases a
  rename_i b m p N ak S;have bs:x=#[b,m]:=ab;have bx:H=#[p,N]:=ab;grind [ba.copy]
 ·rename_i b e;have O:sk (aw st.g b)=bu->o ⟨bn (z,aw st.g b),[],[],[]⟩=bn s->ba E C k st (λv=>∃c,o c=bn s/\v=c.app st):=λad u=>by
   refine H1 (an:=ic.an) i j ?_;rw[e];simp only[eA,ad,bK];exact⟨_,u,br⟩
  have as:(i7 ic.an st.h z (aw st.g b)).bind o=bn s->ba E C k st (λv=>∃c,o c=bn s/\v=c.app st):=λu=>(by obtain⟨c,cs,u⟩:=a1.1 u;exact ba.yn e i j (yo cs ⟨c,u,br⟩));split at a
  ·rename_i d7 m t;exact O (by rw[t];rfl) ab
  ·rename_i J ap t;exact O (by rw[t];rfl) ab
  ·rename_i id fs t;rintro d w ⟨a3,d5,ce,D⟩ next bl Q
   have M:=D.aw b;have R:(bF d.eval k).run E.P w=.ok (.value (d.eval b)) w:=(by simp[bF,e]);unfold cc;rw[R];show next (d.put k.dst (d.eval b)) w
   rw[i];refine Q _ _ _ ⟨_,a,br⟩ rfl ⟨_,_,_,D.put j ?_⟩;grind
  ·rename_i av t;split at a
   ·exact O (by rw[t];rfl) ab
   split at a
   ·rename_i U;simp only[aC] at U;obtain⟨m,d3,a⟩:=a1.1 a;rintro d w ⟨a3,d5,ce,D⟩ next bl Q
    have M:=D.aw b;have R:(bF d.eval k).run E.P w=.ok (.value (d.eval b)) w:=(by simp[bF,e]);unfold cc;rw[R];show next (d.put k.dst (d.eval b)) w
    rw[i];refine Q _ _ _ ⟨_,a,br⟩ rfl ⟨_,_,_,D.put j ?_⟩;rw[t] at M;generalize d.eval b=d6 at M;cases M;rw[<-ja.ok U.2];exact .val (i9 d3)
   grind
  grind
 ·grind [yt]
 ·grind [A1]
 ·grind [yA]
 ·grind [yD]
 split at a
 ·rename_i y l;refine H1 (an:=ic.an) i j ?_;rw[<-B];exact rT (by rw[l];exact⟨_,a,br⟩)
 ·rename_i a0 m J l;refine H1 (an:=ic.an) i j ?_;rw[<-B];obtain⟨G,F,a⟩:=a1.1 a;exact rT (by rw[l];exact⟨G,F,_,a,br⟩)
 ·rename_i a0 m ft c l;cases r:bB c z with
  |false=>grind
  |true=>
  rw[r] at a;obtain rfl:=a7 r;obtain⟨G,F,a⟩:=a1.1 a;refine H1 (an:=ic.an) i j ?_;rw[<-B];exact rT (by rw[l];exact⟨G,F,_,a,br⟩)
 refine H1 (an:=ic.an) i j ?_;rw[B] at a;split at a
 ·rename_i y fp l;rw[l];exact⟨_,a,br⟩
 ·rename_i a0 f0 J l;rw[l];obtain⟨G,F,a⟩:=a1.1 a;exact⟨G,Co F,_,a,br⟩
 grind
def ba.mono {b:aq->Prop} (f:ba E C k i v) (j:∀a,v a->b a):ba E C k i b:=
 λd m g next c h=>f d m g next c (λa e n l=>h a e n (j a l))
theorem Em (b:gj u e=bu):∃id,e.ids=[id]/\∃a∈u,a.1=id:=by
 have d:∀(id:bo) (f:bo×bp ax->bA),(u.any λa=>bB a.1 id&&f a)=bu->∃a∈u,a.1=id:=(by intro id f j;obtain⟨a,g,h⟩:=iu.1 j;simp only[aC] at h;grind [et]);cases e with
 |ref id c=>
  cases c with
  |nil=>
   obtain⟨a,g,i⟩:=iu.1 (show(u.any λa=>bB a.1 id)=bu from b);exact⟨id,br,a,g,a7 i⟩
  |cons m c=>exact⟨id,br,d id _ b⟩
 |addr id c|view id c l k=>exact⟨id,br,d id _ b⟩
 |_=>cases b
theorem qK {a:ei}:e.cD (h++a)=(e.cD h||e.cD a):=by simp only[cu];rw[Jv];simp only[iu,gq];grind [ey,Kw,List.mem_append_right]
theorem ua:(ag.aR f O).cD h=O.any λa=>a.cD h:=by
 show(Ia O).any _=_
 induction O with
 |nil=>rfl
 |cons a O b=>grind [Ia,cu]
theorem xq {b:ei} (c:e.cD b=bw):fO (b++h) u e=fO h u e:=by
 cases e with
 |aR m p=>
  rw[ua,ls] at c;rw[Jv];simp only[fO,cX];constructor<;>intro i f g<;>have:=i f g<;>rw[qK,Bool.eq_false_iff.2 (c f g)] at*<;>simpa using this
 |app id q s r d=>
  have j:=qL c;have o:∀a∈d,a5 a (b++h)=a5 a h:=λa k=>(by have n:a∉b:=j a (eJ _ k);rw[Jv,ey,ey,fY];grind);have l:(d.all λa=>!(a5 a (b++h)))=d.all λa=>!(a5 a h):=ab;grind [fO]
 |_=>rfl
theorem Ah {F S:ei} {keep:bp (bo×bp ax)} {a:ag}:cI (F++S) keep a=.dead\/(a.cD F=bw/\cI (F++S) keep a=cI S keep a)\/(fO (F++S) keep a=bu/\cI (F++S) keep a=a):=by grind [xq,qK,fO,cI]
theorem hN.ok (b:hN c h=bu):∀id∈h,∃a,ah c id=bn a/\r2 a.1=bu:=by intro id d;have:=cX.1 b id d;grind
theorem u3 (ce:ic.fu E C) {P:aL->bv A} {an:A} (e:fQ ic (aw i.g) i.h k P=bn an):ba E C k i (λO=>∃b,P b=bn an/\O=b.app i):=by
 unfold fQ at e;split at e
 ·grind [u1]
 generalize hk ic.je (l3 k) (aw i.g) (kh k.op)=c at e;cases U:hN i.h c with
 |false=>grind
 |true=>
 rw[U] at e;simp only[bK] at e;rw[<-zL c i] at e;have n:=u1 (st:=kX c i) ce e;intro j ds M next ap co
 obtain⟨d1,d9,d2,M⟩:=M;refine n j ds (M.freeze (hN.ok U)) next ap (λel av d0 cv bs a3=>?_)
 obtain⟨b,V,rfl⟩:=cv;cases ad:b.keep.all (λm=>!a5 m.1 c) with
 |false=>grind
 |true=>
 rw[ad] at V;have ad:∀m∈b.keep,m.1∉c:=λm r ci=>(by grind [ey,Ie]);refine co _ av d0 ⟨_,V,br⟩ bs (a3.vW ?_ ?_)
 ·intro D;have s:∀j:ag,cI (c++b.S) b.keep j=.dead\/cI (c++b.S) b.keep j=cI b.S b.keep (ev i.h c j):=by
   intro j;rcases Ah (F:=c) (S:=b.S) (keep:=b.keep) (a:=j) with e|⟨n,z⟩|⟨n,z⟩
   ·grind
   ·right;rw[z];rcases hj i.h c j with⟨id,q,rfl,dl,_⟩|⟨_,p⟩|⟨p,_⟩
    ·grind [ey,cu,bM]
    ·grind
    grind
   have cs:∀(id:bo),(∃l∈b.keep,l.1=id)->a5 id c=bw:=λid ⟨l,B,b⟩=>ab;have v:fO (c++b.S) b.keep j=fO b.S b.keep j->∀(id:bo),j.ids=[id]->(∃l∈b.keep,l.1=id)->cI (c++b.S) b.keep j=.dead\/cI (c++b.S) b.keep j=cI b.S b.keep (ev i.h c j):=by
    intro d4 id d6 B;have am:j.cD c=bw:=(by grind [cu]);right;rcases hj i.h c j with⟨m,q,rfl,dl,_⟩|⟨_,p⟩|⟨p,_⟩
    ·grind [ey,cu,bM]
    ·grind
    grind [cI,fO]
   have x:∀(id:bo) (Q:bo×bp ax->bA),(b.keep.any λl=>bB l.1 id&&Q l)=bu->∃l∈b.keep,l.1=id:=(by intro id Q bx;obtain⟨l,B,z⟩:=iu.1 bx;simp only[aC] at z;grind [et]);cases j with
   |ref id f=>
    cases f with
    |nil=>
     obtain⟨l,B,H⟩:=iu.1 (show(b.keep.any λl=>bB l.1 id)=bu from n);exact v br id br ⟨l,B,a7 H⟩
    |cons O f=>exact v br id br (x id _ n)
   |addr id f|view id f G r=>exact v br id br (x id _ n)
   |aR u o=>
    have a4:=cX.1 n;have am:(ag.aR u o).cD c=bw:=(by rw[ua,ls];grind [Em,qK,id,cu,ak]);right;rcases hj i.h c (.aR u o) with⟨m,q,N,_⟩|⟨_,p⟩|⟨p,_⟩
    ·cases N
    ·grind
    rw[p,z];unfold cI;have d3:fO b.S b.keep (.aR u o)=bu:=cX.2 λa0 bl=>(by have H:=a4 a0 bl;rw[qK,Bool.not_or,gq,aC] at H;grind);grind
   |app id f w y t=>
    have T:((t.all λm=>!(a5 m (c++b.S)))&&b.keep.any λl=>bB l.1 id&&gd l.2 f)=bu:=n;rw[aC] at T;have d5:=cs id (x id _ T.2);have am:(ag.app id f w y t).cD c=bw:=by
     unfold cu;rw[ls];intro m r ci;rcases c2.1 (show m∈id::t from r) with rfl|r
     ·grind
     grind [Ie,ey,Kw]
    right;rcases hj i.h c (.app id f w y t) with⟨m,q,N,_⟩|⟨_,p⟩|⟨p,_⟩
    ·cases N
    ·grind
    grind [xq,cI]
   |c0 j=>
    have n:gj b.keep j=bu:=n;cases j with
    |ref id f=>
     cases f with
     |nil=>
      obtain⟨l,B,H⟩:=iu.1 (show(b.keep.any λl=>bB l.1 id)=bu from n);exact v br id br ⟨l,B,a7 H⟩
     |cons O f=>exact v br id br (x id _ n)
    |addr id f|view id f G r=>exact v br id br (x id _ n)
    |_=>cases n
   |_=>cases n
  have d7:∀j:ag,n3 (cS (c++b.S) b.keep j) (cS b.S b.keep (e9 i.h c j)):=by
   intro j;cases j with
   |bb o=>
    refine .inr (.inr ⟨_,_,br,br,aa,λm l eq n z=>?_⟩);grind
   |ref id f=>
    have p:=s (.ref id f);have ak:cS b.S b.keep (e9 i.h c (.ref id f))=cI b.S b.keep (ev i.h c (.ref id f)):=by show cS b.S b.keep (ev i.h c (.ref id f))=_;rcases hj i.h c (.ref id f) with⟨m,q,_,_,_,e⟩|⟨e,_⟩|⟨e,_⟩<;>rw[e]<;>first|rfl|grind [zM]
    rw[ak];exact p.imp (λe=>e) .inl
   |dead=>exact(s .dead).imp (λe=>e) .inl
   |val w l=>exact .inr (.inl (by
    simp[cI,ev,e9,cS,cu,bM]))
   |aS em=>exact .inr (.inl (by
    simp[cI,ev,e9,cS,cu,bM]))
   |addr id f=>
    have ak:cS b.S b.keep (e9 i.h c (.addr id f))=cI b.S b.keep (ev i.h c (.addr id f)):=by show cS b.S b.keep (ev i.h c (.addr id f))=_;rcases hj i.h c (.addr id f) with⟨m,q,_,_,_,e⟩|⟨e,_⟩|⟨e,_⟩<;>rw[e]<;>first|rfl|grind
    rw[ak];exact(s _).imp (λe=>e) .inl
   |view id f G r=>
    have ak:cS b.S b.keep (e9 i.h c (.view id f G r))=cI b.S b.keep (ev i.h c (.view id f G r)):=by show cS b.S b.keep (ev i.h c (.view id f G r))=_;rcases hj i.h c (.view id f G r) with⟨m,q,_,_,_,e⟩|⟨e,_⟩|⟨e,_⟩<;>rw[e]<;>first|rfl|grind
    rw[ak];exact(s _).imp (λe=>e) .inl
   |fy id f L=>
    have ak:cS b.S b.keep (e9 i.h c (.fy id f L))=cI b.S b.keep (ev i.h c (.fy id f L)):=by show cS b.S b.keep (ev i.h c (.fy id f L))=_;rcases hj i.h c (.fy id f L) with⟨m,q,_,_,_,e⟩|⟨e,_⟩|⟨e,_⟩<;>rw[e]<;>first|rfl|grind
    rw[ak];exact(s _).imp (λe=>e) .inl
   |app id f w y t=>
    have ak:cS b.S b.keep (e9 i.h c (.app id f w y t))=cI b.S b.keep (ev i.h c (.app id f w y t)):=by show cS b.S b.keep (ev i.h c (.app id f w y t))=_;rcases hj i.h c (.app id f w y t) with⟨m,q,_,_,_,e⟩|⟨e,_⟩|⟨e,_⟩<;>rw[e]<;>first|rfl|grind
    rw[ak];exact(s _).imp (λe=>e) .inl
   |agg o=>
    have ak:cS b.S b.keep (e9 i.h c (.agg o))=cI b.S b.keep (ev i.h c (.agg o)):=by show cS b.S b.keep (ev i.h c (.agg o))=_;rcases hj i.h c (.agg o) with⟨m,q,_,_,_,e⟩|⟨e,_⟩|⟨e,_⟩<;>rw[e]<;>first|rfl|grind
    rw[ak];exact(s _).imp (λe=>e) .inl
   |aR u o=>
    have ak:cS b.S b.keep (e9 i.h c (.aR u o))=cI b.S b.keep (ev i.h c (.aR u o)):=by show cS b.S b.keep (ev i.h c (.aR u o))=_;rcases hj i.h c (.aR u o) with⟨m,q,_,_,_,e⟩|⟨e,_⟩|⟨e,_⟩<;>rw[e]<;>first|rfl|grind
    rw[ak];exact(s _).imp (λe=>e) .inl
   |c0 j=>
    have ak:cS b.S b.keep (e9 i.h c (.c0 j))=cI b.S b.keep (ev i.h c (.c0 j)):=by show cS b.S b.keep (ev i.h c (.c0 j))=_;rcases hj i.h c (.c0 j) with⟨m,q,_,_,_,e⟩|⟨e,_⟩|⟨e,_⟩<;>rw[e]<;>first|rfl|grind
    rw[ak];exact(s _).imp (λe=>e) .inl
  show n3 (gt (aL.app ⟨b.d,c++b.S,b.keep,b.put⟩ i).g D) (gt (b.app (kX c i)).g D);obtain⟨K,I,J,d8⟩:=b;cases K with
  |none=>
   show n3 (gt (hP (c++I) J i.g) D) (gt (hP I J (kX c i).g) D);grind [k1,jf,pT]
  |some p=>
   obtain⟨K,R⟩:=p;show n3 (gt ((K,R)::hP (c++I) J i.g) D) (gt ((K,R)::hP I J (kX c i).g) D);rw[gz,gz];split
   ·exact .inr (.inl br)
   grind [k1,jf,pT]
 intro id;show ah (b.put++jP (c++b.S) i.h) id=ah (b.put++jP b.S (del c i.h)) id;grind [nm,fS,gQ]
theorem zm (m:ic.fu E C) {id:bo} {j:ax} (bs:s9 ic (aw i.g) k=bn (id,j::o)) {q:aL->bv A} {B:A} (a:rS ic id j o (aw i.g) i.h k q=bn B):ba E C k i (λj=>∃r,q r=bn B/\j=r.app i):=by
 have R:=λc=>cW.ok m (d:=c);have M:=m.2.2.2.2.1;have N:=m.2.2.2.1.2.2.2.1;obtain⟨bx,_,_,V,_⟩:=m;unfold rS at a;split at a
 ·cases a
 rename_i c I;cases x:cW ic.n ic.pin c with
 |false=>grind
 |true=>
 rw[x] at a;have J:=R c x;simp only[bK] at a;split at a
 case h_2=>cases a
 rename_i a4 D cv P;split at a
 case h_2=>cases a
 rename_i G y an;split at a
 ·cases a
 rename_i b u;cases v:bB b.f G with
 |false=>grind
 |true=>
 rw[v] at a;obtain rfl:=a7 v;simp only[bK] at a;split at a
 ·cases a
 rename_i co T;split at a
 ·cases a
 rename_i a3 ce;split at a
 ·cases a
 rename_i av ad;split at a
 ·cases a
 rename_i l bl;obtain⟨e,Q,a⟩:=a1.1 a;have S:lo (D.toList.map (aw i.g)++y) (b.ps.map h8)=bn (id,j::o):=(by grind [s9]);generalize H:hx id (D.toList.map (aw i.g)++y) (b.ps.map h8)=p at*;cases w:g1 c ⟨[],(id,⟨a3,av⟩)::del [id] i.h⟩ p (bd b.ps l e) (eO b.rs (eI b.ps e)) with
 |false=>grind
 |true=>
 rw[w] at a;cases s:a5 id (cY p (bd b.ps l e)) with
 |false=>grind
 |true=>
 rw[s] at a;cases t:a5 id (fR p (bd b.ps l e)) with
 |false=>grind
 |true=>
 rw[t] at a;simp only[Bool.and_self,bK] at a;split at a
 ·cases a
 rename_i cs U;split at a
 ·cases a
 rename_i F am;obtain⟨a0,ap,a⟩:=a1.1 a;obtain⟨ci,O⟩:=sr u;obtain⟨K,L⟩:=V.1 _ O;refine ba.sub P an I J K (L l e Q) (by grind [ss,mD]) M N T (eH ad) S H.symm ?_ w (by rw[qm];exact su u) (ey.1 s) (ey.1 t) (y':=F) (z:=a0) ?_ (hw ap) ⟨_,a,?_⟩
 ·grind [h5,qE]
 ·rw[U];exact cp bn (fL am)
 rw[aL.q8]
def Ep (c:bz) (e:bo) (a:bv b6) (g d:bo) (f:s.underlying b=bn (.slice q)):(If (e+1) b (.slice a g d) (.slice bq 0 0)).run s c=.ok a.isNone c:=by cases a<;>simp[If,b1 f]
theorem En (c:bz) (a:bv b6) (e d:bo) (f:s.underlying b=bn (.slice q)):(cn .eql b (.slice a e d) (.slice bq 0 0)).run s c=.ok (.bool a.isNone) c:=by simp_all [Ep,IN,IP,cn]
theorem Be (s:ic.fu E C) {x:bo} (a:sH ic (aw i.g) k=bn (f,x)):ba E C k i (λR=>∃b:bA,R=⟨(f,.val .bool b)::i.g,i.h⟩/\(b=bu->x=0)):=by
 unfold sH at a;split at a
 case h_2=>cases a
 rename_i D A j l a3 H J;split at a
 case h_2=>cases a
 rename_i a0 ap z y r F G;cases t:cW ic.n ic.pin D with
 |false=>grind
 |true=>
 rw[t] at a;simp only[bK,aV,eT] at a;obtain⟨rfl,rfl⟩:=a;rw[s.1] at r;obtain⟨_,T,_,K,_⟩:=ew.ok r;rintro d e ⟨S,av,V,m⟩ next U an
 have o:=m.aw j;have p:=m.aw l;rw[F] at o;rw[G] at p;obtain⟨c,u⟩:∃c,c=d.eval j:=⟨_,br⟩;obtain⟨a4,w⟩:∃c,c=d.eval l:=⟨_,br⟩;rw[<-u] at o;rw[<-w] at p;cases o with|val O=>cases p with|aS _=>
 obtain⟨_,b,q,rfl,ad,am,_⟩:=O;have L:d.eval j=.slice b (cz (α:=z.den) y) q:=u.symm;have M:d.eval l=.slice bq 0 0:=w.symm;have I:∀e,(H6 .eql A j l (.slice b (cz (α:=z.den) y) q) (.slice bq 0 0)).run E.P e=.ok () e:=λe=>(by unfold H6;simp);refine I1 (Q:=λB N=>B=.val .bool b.isNone/\N=[]) m (.pure (v:=.bool _) (by simp only[bF,J,L,M,bP,I,bT,En _ _ _ _ K];rfl) (.bool _) ⟨br,br⟩) H (cW.ok s t) ?_;grind
def EO {c:bo} {e:ca} (h:E.P.underlying q=bn (.array c b)) (g:bi E.P (.int e) b) {a:Act} (j:k.op=.indexAddr q (.global n) m) {r:ca} (i:a.eval m=.int r f) (s:f<c):(bF a.eval k).run E.P p=.ok (.value (.pointer (bn ⟨n,0+f*1,bq⟩))) p:=by have d:=g.sizeOf p;have o:a.eval (.global n)=.pointer (bn ⟨n,0,bq⟩):=rfl;have:(0:bt)<=(f:bt)/\(f:bt)<(c:bt):=⟨U,U⟩;have l:(af.int e).size=1:=rfl;rw[l] at d;simp[bF,j,o,i,Instr.indexAt,cl,asIntOf,b1 h,this,d,cy];omega
theorem EL (d:ic.fu E C) {A:bJ} {r:lD} {z e:bt} (a:ta ic (aw i.g) A=bn (f,r,z)) (U:c7 r.xs z=bn e):ba E C A i (λam=>am=⟨(f,.val (.ptr .aE (.int r.k)) (bn e))::i.g,i.h⟩):=by
 unfold ta at a;split at a
 case h_2=>cases a
 rename_i D av ce p P R;split at a
 case h_2=>cases a
 rename_i c y q v L;cases w:cW ic.n ic.pin D with
 |false=>grind
 |true=>
 rw[w] at a;simp only[bK,aV,eT] at a;obtain⟨rfl,rfl,rfl⟩:=a;have l:=List.find?_some v;have o:=List.mem_of_find?_eq_some v;rw[aC] at l;obtain rfl:=a7 l.1;obtain rfl:=a7 l.2;rw[d.2.2.2.1.2.2.2.2.1] at o;obtain⟨ap,O,N⟩:=E.gok c o;rintro s d0 ⟨an,dl,bs,j⟩ next a0 bx
 have m:=j.aw p;rw[L] at m;generalize S:s.eval p=ds at m;cases m with|val ad=>
 obtain⟨_,rfl⟩:=ad;obtain⟨ak,J,K⟩:=vl U;obtain⟨_,a3,bl,u,co,cv,aA⟩:=j.glob d.2.2.2.2.1 d.2.2.2.1.2.2.2.1 c o;simp only[eQ,cg,b2] at u;obtain⟨rfl,_⟩:=u;rcases aA with aA|⟨a4,ci,t,M,aH⟩
 ·grind
 simp only[aV,cm,b2] at t;obtain⟨rfl,rfl⟩:=t;obtain⟨I,F,G,H⟩:=aH _ _ K;have T:s.eval p=.int y (q.toNat:bo):=(by rw[S];show b0 y q=_;grind);refine I1 (Q:=λB V=>B=.val (.ptr .aE (.int c.k)) (bn e)/\V=[]) j (.pure (EO O N R T J) (.val (τ:=.ptr .aE (.int c.k)) (x:=bn e) (cs:=[.pointer (bn ⟨c.b,0+q.toNat*1,bq⟩)]) ⟨br,c.b,_,I,br,M,F,G,H⟩) ⟨br,br⟩) P (cW.ok d w) ?_;grind
def xu (c:bz) (d:bo) (a:bv b6) (e:s.underlying b=bn (.pointer q)):(If (d+1) b (.pointer a) (.pointer bq)).run s c=.ok a.isNone c:=by cases a<;>simp[If,b1 e]
theorem Eo (c:bz) (a:bv b6) (d:s.underlying b=bn (.pointer q)):(cn .eql b (.pointer a) (.pointer bq)).run s c=.ok (.bool a.isNone) c:=by simp_all [xu,IN,IP,cn]
theorem Er (c:bz) (a:bv b6) (d:s.underlying b=bn (.pointer q)):(cn .neq b (.pointer a) (.pointer bq)).run s c=.ok (.bool (!a.isNone)) c:=by simp_all [xu,IN,IP,cn]
theorem Ba {j:Act} {r:aW} (l:aK C i j.tmps p r w x) (a:sG i.h (aw i.g m)=bn T):∃k:bv b6,j.eval m=.pointer k/\k.isNone=T:=by
 have b:=l.aw m;obtain⟨G,d⟩:∃f,f=j.eval m:=⟨_,br⟩;rw[<-d] at b;unfold sG at a;split at a
 ·rename_i D z f c;rw[c] at b;cases b with|val e=>
  obtain⟨_,e⟩:=e;cases a;cases f with
  |none=>subst e;exact⟨bq,d.symm,br⟩
  |some H=>obtain⟨s,v,t,rfl,_⟩:=e;exact⟨bn ⟨s,v,bq⟩,d.symm,br⟩
 ·rename_i T c;rw[c] at b;cases b with|val e=>
  obtain⟨_,rfl⟩:=e;cases a;cases T with
  |false=>exact⟨bq,d.symm,br⟩
  |true=>exact⟨bn _,d.symm,br⟩
 ·rename_i f c;split at a
  case h_2=>cases a
  rw[c] at b;cases b;cases a;exact⟨bq,d.symm,br⟩
 ·rename_i id E c;split at a
  case h_2=>cases a
  rename_i z o;split at a
  case h_2=>cases a
  rename_i F u;cases a;rw[c] at b;cases b with|ref q n=>
  rw[o] at q;cases q;have:=n.ty;rw[u] at this;cases this;obtain⟨T,y,t,rfl,A,B⟩:=ie (l.tree id _ o).1 n;exact⟨bn ⟨T,y,bq⟩,d.symm,br⟩
 grind
theorem Cu (r:ic.fu E C) (a:oZ ic (aw i.g) i.h k=bn (f,T)):ba E C k i (λS=>S=⟨(f,.val .bool T)::i.g,i.h⟩):=by
 unfold oZ at a;split at a
 case h_2=>cases a
 rename_i M j d U m av x A;split at a
 case h_2=>cases a
 rename_i L q N O;cases s:cW ic.n ic.pin M with
 |false=>grind
 |true=>
 rw[s] at a;simp only[bK] at a;have R:∃c,E.P.underlying d=bn (.pointer c):=by
  rw[r.1] at q;unfold vI at q;split at q
  ·rename_i H I b;obtain⟨_,c,_,_,_,_,p,_⟩:=E.ok d _ b;grind
  ·rename_i H I b;obtain⟨_,c,_,_,_,_,p,_⟩:=E.ok d _ b;grind
  ·rename_i H I b;obtain⟨_,c,_,_,_,_,p,_⟩:=E.ok d _ b;grind
  ·rename_i b;obtain⟨_,c,_,_,_,_,p⟩:=E.ok d _ b;grind
  grind
 obtain⟨c,B⟩:=R;rintro w l ⟨V,ap,am,e⟩ next ad an
 have t:=e.aw m;rw[O] at t;obtain⟨a0,F⟩:∃J,J=w.eval m:=⟨_,br⟩;rw[<-F] at t;cases t with|aS _=>
 obtain⟨K,D,z⟩:=Ba e N;have G:w.eval m=.pointer bq:=F.symm;have y:∀j l,(H6 j d U m (.pointer K) (.pointer bq)).run E.P l=.ok () l:=λj l=>(by unfold H6;cases j<;>simp);split at a
 ·cases a;refine I1 (Q:=λo u=>o=.val .bool T/\u=[]) e (.pure (v:=.bool _) (by simp only[bF,A,D,G,bP,y,bT,Eo _ _ B,z];rfl) (.bool _) ⟨br,br⟩) x (cW.ok r s) ?_;grind
 ·cases a;refine I1 (Q:=λo u=>o=.val .bool (!L)/\u=[]) e (.pure (v:=.bool _) (by simp only[bF,A,D,G,bP,y,bT,Er _ _ B,z];rfl) (.bool _) ⟨br,br⟩) x (cW.ok r s) ?_;grind
 grind
def u5 {P:bQ} {M:aZ} {w w0:bz} {d:bo}:∀{t:af} {fs:bp cA} {off:bo} {b:ea} {xs ys:dY} {p q:t.den},oJ t=bu->fd P t fs off b->(fs.all λf=>f.name !="_")=bu->al M w0 t (xs.toList.drop off) p []->al M w0 t (ys.toList.drop off) q []->(Jw (d+1) xs ys fs).run P w=.ok (kS t p q) w
 |.nil,[],_,_,_,_,_,_,_,_,_,_,_=>by simp[Jw,kS]
 |.nil,_::_,_,_,_,_,_,_,_,c,_,_,_|.pr i e,[],_,_,_,_,_,_,_,c,_,_,_=>c.elim
 |.pr i e,f::fs,off,b,xs,ys,p,q,a,c,h,A,B=>by
  cases i<;>simp only[oJ] at a<;>try (cases a;done)
  rename_i N;obtain⟨v,k,K,_,x⟩:=c;simp only[fX,aC,bne_iff_ne,ne_eq] at h;obtain⟨G,H,o,E,m⟩:=A;obtain⟨I,J,r,F,n⟩:=B;obtain⟨rfl,rfl⟩:=JE.1 o.symm;obtain⟨rfl,rfl⟩:=JE.1 r.symm;have j:∀(b:dY) (g:Value),(b.toList.drop off).take 1=[g]->(part f.type b f.offset).run P w=.ok g w:=λb g z=>(by have C:b[off]?=bn g:=(by have:=cp (·[0]?) z;simpa[m3,ks] using this);simp only[part,bP,k.isAgg,bT,v,C,g6];rfl);have s:=j xs _ E.2;have u:=j ys _ F.2;obtain⟨L,_,_,_,_,y⟩:=k;have D:=u5 (P:=P) (M:=M) (w:=w) (w0:=w0) (d:=d) (t:=e) (fs:=fs) (off:=off+1) (xs:=xs) (ys:=ys) (p:=p.2) (q:=q.2) a x (by simpa using h.2)
   (by rw[It] at m;exact m) (by rw[It] at n;exact n)
  simp only[Jw,h.1,not_false_eq_true,b8,ne_eq,bP,s,u,bT,run_equalIn_int _ _ _ _ _ _ _ y];show Sem.run P (if(!((p.1:bt)==(q.1:bt)))=bu then pure bw else Jw (d+1) xs ys fs) w=_;cases l:((p.1:bt)==(q.1:bt)) with
  |true=>
   rw[a8 aa,D];show _=Kx (((p.1:bt)==(q.1:bt))&&kS e p.2 q.2) w;rw[l,JW]
  |false=>
   rw[bc aa];show _=Kx (((p.1:bt)==(q.1:bt))&&kS e p.2 q.2) w;rw[l,Kt];rfl
 |.int _,_,_,_,_,_,_,_,a,_,_,_,_|.bool,_,_,_,_,_,_,_,a,_,_,_,_|.str,_,_,_,_,_,_,_,a,_,_,_,_|.au _ _,_,_,_,_,_,_,_,a,_,_,_,_|.ptr _ _,_,_,_,_,_,_,_,a,_,_,_,_|.osl _,_,_,_,_,_,_,_,a,_,_,_,_|.opt _ _,_,_,_,_,_,_,_,a,_,_,_,_|.st _,_,_,_,_,_,_,_,a,_,_,_,_|.aY,_,_,_,_,_,_,_,a,_,_,_,_|.mp _,_,_,_,_,_,_,_,a,_,_,_,_|.bh _ _,_,_,_,_,_,_,_,a,_,_,_,_|.fn _ _,_,_,_,_,_,_,_,a,_,_,_,_=>by cases a
theorem zr (p:ic.fu E C) (a:pM ic (aw i.g) k=bn (f,T)):ba E C k i (λce=>ce=⟨(f,.val .bool T)::i.g,i.h⟩):=by
 unfold pM at a;split at a
 case h_2=>cases a
 rename_i N b s u d4 an av;split at a
 case h_2=>cases a
 rename_i ci c G d8 d0 A S U;cases j:a5 b ic.eq&&(oJ c&&(aD ci (.st c)&&cW ic.n ic.pin N)) with
 |false=>rw[j] at a;cases a
 |true=>
 rw[j,bK] at a;obtain⟨H,a0,a⟩:=cF.1 a;cases a;simp only[aC] at j;obtain⟨J,K,L,M⟩:=j;rw[p.1] at A;have ad:=(E.ok b _ A).lay L;have am:=E.zt b (by rw[<-p.2.2.2.1.2.2.2.2.2.1];exact ey.1 J);cases fL a0;obtain⟨_,ds,z,d7,d1,d2,aA,aH,cP,ka,iM⟩:=ad;obtain⟨ak,O,V,y,R⟩:=am;rw[cP] at y;obtain rfl:z=V:=(by simpa using y);rintro e l ⟨co,d3,cv,o⟩ next cs dl
 have q:=o.aw s;have r:=o.aw u;rw[S] at q;rw[U] at r;obtain⟨d5,D⟩:∃m,m=e.eval s:=⟨_,br⟩;obtain⟨d6,F⟩:∃m,m=e.eval u:=⟨_,br⟩;rw[<-D] at q;rw[<-F] at r;cases q with|val bs=>cases r with|val bx=>
 rename_i w x;have a3:e.eval s=.agg w.toArray:=D.symm;have a4:e.eval u=.agg x.toArray:=F.symm;have B:E.P.fieldsOf b=z:=(by unfold Program.fieldsOf;rw[cP]);have ap:(If 10000 b (.agg w.toArray) (.agg x.toArray)).run E.P l=.ok (kS c G H) l:=(by rw[run_equalIn_struct l 9999 b _ _ (by rw[B];exact cP) ak,B];exact u5 (t:=c) (off:=0) (d:=9998) K ka R (by rw[lv];exact bs) (by rw[lv];exact bx));refine I1 (Q:=λI bl=>I=.val .bool (kS c G H)/\bl=[]) o (.pure (v:=.bool _) (by simp only[bF,av,a3,a4,bP,run_eqGuard_agg l _ _ _ _ _ _ O,bT,run_eql_struct,ap];rfl) (.bool _) ⟨br,br⟩) an (cW.ok p M) ?_;grind
def vX:∀{g:bp (bo×eM)} {c:bo} {b:eM},oP g c=bn b->(∃e,(e,b)∈g)/\b.f=c/\e1 0 b.ps=bq
 |[],_,_,a=>by cases a
 |(e,G)::g,c,b,a=>by
  simp only[oP] at a;cases d:(bB e c&&(bB G.f c&&((e1 0 G.ps).isNone&&!(G.ps.all j9)))) with
  |true=>
   rw[d] at a;cases a;simp only[aC] at d;exact⟨⟨e,aa⟩,a7 d.2.1,Option.isNone_iff_eq_none.1 d.2.2.1⟩
  |false=>
   rw[d] at a;obtain⟨⟨j,i⟩,h⟩:=vX a;exact⟨⟨j,by simp[i]⟩,h⟩
def kZ.get {h:bp (bo×aj)}:∀{f:bp ag},kZ h f=bu->∀d∈f,∃id g,d=.ref id []/\ah h id=bn g
 |[],_,d,c=>by cases c
 |b::f,a,d,c=>by
  unfold kZ at a;split at a
  ·rename_i e;cases e
  ·rename_i id j e;cases e;simp only[aC] at a;rcases c2.1 c with rfl|c
   ·obtain⟨g,i⟩:=ob.1 a.1;exact⟨id,g,br,i⟩
   exact kZ.get a.2 d c
  cases a
def mX.cons {d:aT} (f:mX O V e):mX (t::O) (d::V) e:=by
 rcases f with⟨h,c,j,a,b⟩|⟨c,id,k,l,i,a,b,g⟩
 ·exact .inl ⟨h+1,c,j,by simpa using a,by simpa using b⟩
 exact .inr ⟨c+1,id,k,l,i,by simpa using a,by simpa using b,g⟩
def oM {r:Type}:∀{ps:bp cN} {as:bp ag} {a:c8 ps} {b:eW ps r} {x:ag},j0 ps as x=bu->mX as (bd ps a b) x
 |[],as,a,b,x,c=>by cases as<;>cases c
 |p::ps,[],a,b,x,c=>by cases p<;>simp[j0] at c
 |p::ps,f::as,a,b,x,c=>by
  cases p with
  |d k l h=>
   have e:=λc=>oM (r:=r) (ps:=ps) (as:=as) (a:=a.2) (b:=b) (x:=x) c;cases h with
   |false=>
    simp only[j0,gq] at c;rcases c with c|c
    ·have g:=gZ.ok c;subst g;exact .inl ⟨0,k,l,br,br⟩
    exact(e c).cons
   |true=>exact(e c).cons
  |mg i q=>
   have e:=λc=>oM (r:=r) (ps:=ps) (as:=as) (a:=a.2) (b:=b.2) (x:=x) c;cases i with
   |false=>exact(e (by cases f<;>exact c)).cons
   |true=>
    cases f with
    |ref m p=>
     cases p with
     |nil=>
      simp only[j0,gq,aC] at c;rcases c with⟨j,c⟩|c
      ·split at c
       ·rename_i id p;simp only[aC] at c;obtain rfl:=a7 c.1;exact .inr ⟨0,_,_,_,p,br,br,j,br,c.2⟩
       cases c
      exact(e c).cons
     |cons n p=>exact(e c).cons
    |_=>exact(e c).cons
  |w o=>exact(oM (r:=r) (ps:=ps) (as:=as) (a:=a.2) (b:=b.2) (x:=x) c).cons
  |_=>exact(oM (r:=r) (ps:=ps) (as:=as) (a:=a.2) (b:=b) (x:=x) c).cons
def zl (u:ic.fu E C) {z:bo} {as:bp ag} {q:eM} {y:aL->bv A} {B:A} (a:r5 ic (aw i.g) k=bn (f,z,as,q)) (b:rR i.h f z as q y=bn B):ba E C k i (λU=>∃p,y p=bn B/\U=⟨rO f i q.ps (as++iI i.h q.ps as)++(p.app i).g,(p.app i).h⟩):=by
 unfold r5 at a;split at a
 case h_2=>cases a
 rename_i o av l V K Q;split at a
 case h_2=>cases a
 rename_i ad j T;split at a
 case h_2=>cases a
 rename_i c I;cases w:cW ic.n ic.pin o with
 |false=>rw[w] at a;cases a
 |true=>
 rw[w] at a;simp only[bK,aV,eT] at a;obtain⟨rfl,rfl,rfl,rfl⟩:=a;have M:=cW.ok u w;obtain⟨⟨an,P⟩,rfl,S⟩:=vX I;unfold rR at b;rw[gM] at b;obtain⟨r,J,b⟩:=a1.1 b;obtain⟨m,R,b⟩:=a1.1 b;generalize am:iI i.h c.ps (l.toList.map (aw i.g)++j)=e at*;cases t:(g1 o ⟨[],i.h⟩ (l.toList.map (aw i.g)++j++e) (bd c.ps r m) (eO c.rs (eI c.ps m))&&(bB (jn (bd c.ps r m)) (l.size+j.length)&&(oG (l.toList.map (aw i.g)++j++e) (bd c.ps r m)&&kZ i.h e))) with
 |false=>rw[t] at b;cases b
 |true=>
 rw[t] at b;simp only[aC] at t;obtain⟨D,F,G,H⟩:=t;obtain⟨N,O⟩:=u.2.2.2.1.1 _ P;refine ba.call (gh:=e) Q T K M N (O r m R) (by rw[mD];exact S) u.2.2.2.2.1 u.2.2.2.1.2.2.2.1 (kZ.get H) (a7 F) G (by rw[qE];exact h5 J) D (L:=rO o i c.ps (l.toList.map (aw i.g)++j++e)) (λap a=>?_) ⟨_,b,?_⟩
 ·obtain⟨x,_,d⟩:=List.mem_filterMap.1 a;cases s:bB x.1 o with
  |true=>rw[s] at d;cases d
  |false=>
   rw[s,cq] at d;cases v:j0 c.ps (l.toList.map (aw i.g)++j++e) (gt i.g x.1) with
   |false=>rw[v] at d;cases d
   |true=>
    rw[v] at d;cases d;exact⟨(λp=>by rw[show x.1=o from p,lz] at s;cases s),br,oM v⟩
 rw[aL.q8];rfl
theorem vC (e:ic.fu E C) {l:aq->bv A} {q:A} (b:sc ic i k l=bn q):ba E C k i (λd=>l d=bn q):=by
 unfold sc at b;split at b
 ·rename_i f y p a;obtain⟨B,s,b⟩:=a1.1 b;refine(EL e a s).mono (λd c=>?_);grind
 split at b
 ·rename_i f j a;have r:oZ ic (aw i.g) i.h k=bn (f,j)\/pM ic (aw i.g) k=bn (f,j):=by
   cases o:oZ ic (aw i.g) i.h k with
   |none=>rw[o,Option.none_or] at a;exact .inr a
   |some z=>rw[o,Option.some_or] at a;exact .inl a
  rcases r with a|a
  ·refine(Cu e a).mono (λd c=>?_);grind
  refine(zr e a).mono (λd c=>?_);grind
 split at b
 ·rename_i f p a;obtain⟨u,v⟩:=Bd b;refine(Be e a).mono (λd c=>?_);obtain⟨j,rfl,w⟩:=c;cases j with
  |false|true=>grind
 split at b
 ·rename_i f p as t a;exact(zl e a b).mono (λd ⟨m,n,c⟩=>by grind)
 split at b
 ·rename_i id d x c;exact(zm e c b).mono (λd ⟨m,n,c⟩=>by grind)
 exact(u3 e b).mono (λd ⟨m,n,c⟩=>by grind)
def qH {D:dY} {m:bz} {b:aW} {k:bo->ea} {i:bo->ei} {g:aq} (c:aK C g D m b k i):∀{x:bp (bo×aj)} {d:ag},nZ g.h x=bn d->aJ (az b C.B) m g.h k i d (.pointer (bn ⟨(b.t 2).1,(b.t 2).2,bq⟩))
 |[],d,a=>by cases a
 |(u,_)::r,d,a=>by
  simp only[nZ] at a;split at a
  ·rename_i l f;split at a
   ·rename_i j E H;cases e:(da l.1 l.2 j (.opt 2 E)).isSome with
    |false=>rw[e] at a;exact qH c a
    |true=>
     rw[e] at a;cases a;obtain⟨K,s⟩:=ob.1 e;obtain⟨z,A,aA⟩:=c.tree u _ f;obtain⟨I,F,G,J,v,w,_⟩:=kW j (loc:=bq) z (λ_ _ a=>by cases a) A (λ_ _ a=>by cases a) (c.notM f) (eH s);obtain⟨n,y,_,_,rfl,_,_,_,_,_,q⟩:=w;have o:=q R;have p:(n,y)=b.t 2:=o;rw[<-p];exact .ref f v
   exact qH c a
  exact qH c a
def mM {k:dY} {r:bz} {o:aW} {q:bo->ea} {p:bo->ei} {i:aq} (c:aK C i k r o q p):∀{l:dX},∀b∈mL i l,aJ (az o C.B) r i.h q p b.2 (k.getD b.1 bL)
 |[],b,a=>by cases a
 |.const _::e,b,a|.global _::e,b,a|.func _::e,b,a=>mM c (l:=e) b a
 |.tmp j::e,b,a=>by
  simp only[mL] at a;cases d:sj (gt i.g j) with
  |false=>rw[d] at a;exact mM c b a
  |true=>
   rw[d] at a;simp only[bK] at a;split at a
   ·rename_i s t;rcases c2.1 a with rfl|a
    ·have n:=c.tmp j;have u:∃f:bA,gt i.g j=.val .aM f/\f=bu:=by
      unfold sj at d;split at d
      ·rename_i f m;exact⟨f,m,d⟩
      cases d
     obtain⟨f,m,rfl⟩:=u;rw[m] at n;show aJ _ _ _ _ _ s (k.getD j bL);generalize k.getD j bL=val at n;cases n with|val v=>
     obtain⟨_,rfl⟩:=v;exact qH c t
    exact mM c b a
   exact mM c b a
def mK {j:dY} {u:bz} {f:aW} {s:bo->ea} {p:bo->ei} {i:aq} (d:aK C i j u f s p):∀{l:dX},∀b∈mJ i l,aJ (az f C.B) u i.h s p b.2 (j.getD b.1 bL)
 |[],b,a=>by cases a
 |.const _::e,b,a|.global _::e,b,a|.func _::e,b,a=>mK d (l:=e) b a
 |.tmp k::e,b,a=>by
  simp only[mJ] at a;cases c:sa i.h (gt i.g k) with
  |false=>rw[c] at a;exact mK d b a
  |true=>
   rw[c] at a;rcases c2.1 a with rfl|a
   ·have n:=d.tmp k;unfold sa at c;split at c
    case h_2=>cases c
    rename_i G H v;split at c
    case h_2=>cases c
    rename_i I q;split at c
    case h_2=>cases c
    rename_i J F;obtain⟨L,D⟩:=ob.1 c;rw[v] at n;show aJ _ _ _ _ _ (.val .aM bu) (j.getD k bL);generalize j.getD k bL=K at n;cases n with|ref r z=>
    rw[q] at r;cases r;obtain⟨rfl,E,A,_⟩:=d.fF q (eH D) z;obtain⟨m,o,_,_,rfl,_,_,_,_,_,y⟩:=A;have w:(m,o)=f.t 2:=y R;refine .val (τ:=.aM) (x:=bu) (cs:=[.pointer (bn ⟨m,o,bq⟩)]) ⟨br,?_⟩;show[HY (bn ⟨m,o,bq⟩)]=[.pointer (bn ⟨(f.t 2).1,(f.t 2).2,bq⟩)];rw[<-w]
   exact mK d b a
def wZ (m:ic.fu E C) {g:dY} (j:cV C i g p):cV C (sW ic k i) g p:=by
 have l:ic.fx=C.fx:=m.2.2.2.1.2.2.2.2.2.2;have a:cV C (bif ic.fx then i else nL i i.h) g p:=by
  cases e:ic.fx with
  |true=>exact j
  |false=>exact wM (by rw[<-l,e]) j
 unfold sW;generalize(bif ic.fx then i else nL i i.h)=n at a;unfold wY;split
 ·obtain⟨c,f,d,b⟩:=a;exact⟨c,f,d,(b.tags (mM b)).tags (mK b)⟩
 ·obtain⟨c,f,d,b⟩:=a;exact⟨c,f,d,b.tags (mK b)⟩
 ·cases e:ic.fx with
  |true=>exact a
  |false=>exact A6 (by rw[<-l,e]) a
 exact a
def vD (d:ic.fu E C) {b:bN bJ} {c:aq->bv A} {e:A} (q:b[f]?=bn k) (s:gp b i k bu) (m:i1 ic i k c=bn e) (n:∀a,c a=bn e->ff E C b h a v):ff E C b (f::h) i v:=
 ff.op q s (λj t o next g p=>(vC d m) j t (wZ d o) next g (λa l u r=>p a l u (n a r)))
theorem ny {l2:ei} (d:ic.fu E C) {q:bN bJ} {s:aq->bv A} {y:A} {t:aq->Prop} (f:∀k,s k=bn y->ff E C q l2 k t):∀{p:ei} {b:aq},gi ic q p b s=bn y->ff E C q (p++l2) b t
 |[],b,a=>f _ a
 |i::p,b,a=>by
  simp only[gi] at a;split at a
  ·cases a
  rename_i H j;split at a
  ·rename_i z;exact vD d j (by grind [gp]) a (λk c=>ny d f c)
  rename_i G l z;split at a
  case h_2=>cases a
  rename_i v u D x;split at a
  case h_3=>cases a
  case h_2=>
   rename_i I B;cases c:cW ic.n ic.pin u with
   |false=>grind
   |true=>
   rw[c] at a;have o:=cW.ok d c;refine ff.skip j x o ?_ (ny d f a);grind [gp]
  rename_i m B;cases c:cW ic.n ic.pin u with
  |false=>grind
  |true=>
  rw[c] at a;have o:=cW.ok d c;simp only[bK] at a;split at a
  ·rename_i w;obtain rfl:m=l:=ab;have r:∀e,gt (⟨(v,.val .bool m)::b.g,b.h⟩:aq).g e=gt b.g e:=λe=>by
    grind [gz]
   refine ff.same r br (vD d j ?_ a (λk c=>ny d f c));grind [gp]
  rename_i w;have F:m=!l:=by cases m<;>cases l<;>first|rfl|cases w
  have r:∀e,gt (⟨(v,.val .bool (!l))::b.g,b.h⟩:aq).g e=gt b.g e:=λe=>(by grind [gz]);refine ff.same r br (ff.skip j x o ?_ (ny d f a));grind [gp]
theorem z7 (g:ic.fu E C) {c:bN bJ} {b:aq->bv A} {d:A} (f:∀a,b a=bn d->v a) (e:gi ic c h i b=bn d):ff E C c h i v:=by have:=ny (l2:=[]) g (λa j=>ff.nil (f a j)) e;grind
end
end
structure gb (s t:aq):Prop where
 g:∀k,gt s.g k=gt t.g k
 h:∀id,ah s.h id=ah t.h id
def gb.refl (a:aq):gb a a:=⟨λ_=>rfl,λ_=>rfl⟩
def gb.symm {c d:aq} (b:gb c d):gb d c:=⟨λa=>(b.g a).symm,λa=>(b.h a).symm⟩
def gb.trans {d e f:aq} (b:gb d e) (c:gb e f):gb d f:=⟨λa=>(b.g a).trans (c.g a),λa=>(b.h a).trans (c.h a)⟩
def aL.lH (a:aL) (e:aq) (b:bo):gt (a.app e).g b=match a.d with
 |some (c,f)=>if c=b then f else cS a.S a.keep (gt e.g b)
 |none=>cS a.S a.keep (gt e.g b):=by
 obtain⟨c,h,i,k⟩:=a;cases c with
 |none=>
  show gt (hP h i e.g) b=_;rw[k1,jf]
 |some j=>
  obtain⟨c,f⟩:=j;show gt ((c,f)::hP h i e.g) b=_;rw[gz,k1,jf]
theorem aL.kF (a:aL) (b:aq) (id:bo):ah (a.app b).h id=(ah a.put id).or (if id∈a.S then bq else ah b.h id):=by show ah (a.put++jP a.S b.h) id=_;rw[nm,fS,gQ]
def gb.app {c t:aq} (b:gb c t) (a:aL):gb (a.app c) (a.app t):=
 ⟨λd=>by rw[aL.lH,aL.lH,b.g],λd=>by rw[aL.kF,aL.kF,b.h]⟩
def cV.seq {a:a6} {c:aq} {d:dY} (b:gb i c) (e:cV a i d p):cV a c d p:=e.less (λf=>.inr (b.g f).symm) (λid=>(b.h id).symm)
def pI:bv (bo×ag)->eb->bA
 |some b,bn a=>bB b.1 a
 |none,bq=>bu
 |_,_=>bw
def lc:ag->bA
 |.dead=>bw
 |_=>bu
def iP (b c:ei):bA:=b.all λa=>a5 a c
theorem iP.ok {b:ei} (c:iP h b=bu):∀a∈h,a∈b:=λa d=>ey.1 (cX.1 c a d)
def iO (a:ei):ag->bA
 |.ref id []=>a5 (id+500000) a
 |_=>bw
def nz:Op->bA
 |.move _=>bu
 |_=>bw
def eP:bp ax->bo
 |[]=>0
 |.deref::a=>1+7*eP a
 |.unst::a=>2+7*eP a
 |.fst::a=>3+7*eP a
 |.snd::a=>4+7*eP a
 |.unn::a=>5+7*eP a
 |.idx _::_=>6
def jM:ag->bv dS
 |.ref id a=>bn (id,3*eP a+1)
 |.addr id a=>bn (id,3*eP a+2)
 |.app id a _ _ b=>match a5 id b with
  |false=>bn (id,3*eP a+3)
  |true=>bq
 |.c0 (.ref id a)=>bn (id,3*eP a+1)
 |_=>bq
def k4 (b:ei) (a:ag):bA:=match jM a with
 |some (id,d)=>b3 id 500000&&(a5 (id+1000000*d) b&&a.ids.all λc=>bB c id||a5 c b)
 |none=>bw
def j2:bp ax->bo->bA
 |[],_=>bw
 |s::b,a=>bif bB a 0 then jg (s::b) else match s with
  |.deref=>bB (a %7) 1&&j2 b (a/7)
  |.unst=>bB (a %7) 2&&j2 b (a/7)
  |.fst=>bB (a %7) 4||(bB (a %7) 3&&j2 b (a/7))
  |.snd=>bB (a %7) 3||(bB (a %7) 4&&j2 b (a/7))
  |.unn=>bB (a %7) 5&&j2 b (a/7)
  |.idx _=>bw
def lm:bp ax->bo->bA
 |[],_=>bw
 |s::b,a=>bif bB a 0 then(ke (s::b)).isSome else match s with
  |.deref=>bB (a %7) 1&&lm b (a/7)
  |.unst=>bB (a %7) 2&&lm b (a/7)
  |.fst=>bB (a %7) 3&&lm b (a/7)
  |.snd=>bB (a %7) 4&&lm b (a/7)
  |.unn=>bB (a %7) 5&&lm b (a/7)
  |.idx _=>bw
def jQ:bp ax->bo->bA
 |[],_=>bw
 |s::b,a=>match s with
  |.deref=>bB (a %7) 1&&jQ b (a/7)
  |.unst=>bB (a %7) 2&&jQ b (a/7)
  |.fst=>bB (a %7) 4||(bB (a %7) 3&&jQ b (a/7))
  |.snd=>bB (a %7) 3||(bB (a %7) 4&&jQ b (a/7))
  |.unn=>bB (a %7) 5&&jQ b (a/7)
  |.idx _=>bw
def mw (b:bp ax) (a:bo):bA:=match a %3 with
 |1=>j2 b (a/3)
 |2=>j2 b (a/3)||lm b (a/3)
 |_=>jQ b (a/3-1)
def kE (a:bH->ag) (b:bJ):bv (bo×bp ax):=match b.op with
 |.call {callee:=.builtin .append,args:=xs,argTypes:=_}=>match xs.toList with
  |[x,_]=>match a x with
   |.ref id (d::c)=>bn (id,d::c)
   |_=>bq
  |_=>bq
 |_=>bq
def sV (c:ei) (b:bH->ag) (d:bJ):bA:=c.all λa=>b3 a 1000000||(match kE b d with
 |some (id,e)=>bB (a %1000000) (id+500000)&&(b3 id 500000&&mw e (a/1000000))
 |none=>bw)
def Am (a:ei) (c:bp (bo×bp ax)) (b:ei):bA:=b.all λid=>b3 id 500000&&((a5 id a&&(a5 (id+500000) a||gj c (.ref id [])))||a5 (id+1500000) a)
def pv:ag->bA
 |.bb b=>b.all lc
 |a=>lc a
def ig (op:Op) (b:ei) (a:ag):bA:=match op with
 |.extract _ d=>match a with
  |.bb e=>match e[d]? with
   |some c=>lc c&&(iP c.ids b||iO b c)
   |none=>bw
  |_=>bw
 |op=>pv a&&(iP a.ids b||((nz op&&iO b a)||k4 b a))
def jT (c e:ei) (g:bH->ag) (f:bJ) (b:aL):bA:=
 pI b.d f.dst&&(f.op.operands.toList.all λh=>ig f.op c (g h))&&Am e b.keep b.S&&(b.put.all λa=>b3 a.1 500000&&(a5 a.1 e||a5 (a.1+1500000) e))&&((match b.d with|some a=>iP a.2.ids c||(iO c a.2||k4 c a.2)|none=>bu)&&sV e g f)
theorem jN {e:Type} (c:bA) (d:bv a) (b:a->bv e):(bif c then d else bq).bind b=bif c then d.bind b else bq:=by grind
theorem EE (tt:bp (bC×af)) (d:bp (bo×aj)) (c:bC) (f e:ag) (b:aL->bv a):kf tt d c f e b=(kf tt d c f e bn).bind b:=by
 unfold kf;split
 ·rfl
 split
 case h_2=>rfl
 split
 ·rfl
 rw[jN];congr 1;split
 ·grind
 ·grind
 grind
theorem sD (tt:bp (bC×af)) (d:bp (bo×aj)) (c:bC) (g e f:ag) (b:aL->bv a):ia tt d c g e f b=(ia tt d c g e f bn).bind b:=by
 unfold ia;split
 case h_2=>rfl
 split
 case h_2=>rfl
 split
 case h_2=>rfl
 split
 case h_2=>rfl
 grind
theorem AY (tt:bp (bC×af)) (e:bp (bo×aj)) (d:bo) (c:bC) (g f:ag) (b:aL->bv a):j4 tt e d c g f b=(j4 tt e d c g f bn).bind b:=by
 unfold j4;split
 case h_2=>rfl
 split
 case h_2=>rfl
 split
 case h_2=>rfl
 split
 case h_2=>rfl
 split
 case h_2=>rfl
 grind
theorem zo (tt:bp (bC×af)) (d:bp (bo×aj)) (c:bC) (g e f:ag) (b:aL->bv a):jR tt d c g e f b=(jR tt d c g e f bn).bind b:=by
 unfold jR;split
 case h_2=>rfl
 rw[jN,sD]
theorem AS (tt:bp (bC×af)) (d:bp (bo×aj)) (c:bC) (f e:ag) (b:aL->bv a):j3 tt d c f e b=(j3 tt d c f e bn).bind b:=by
 unfold j3;split
 case h_2=>rfl
 split
 case h_2=>rfl
 split
 case h_2=>rfl
 split
 case h_2=>rfl
 grind
theorem yc (tt:bp (bC×af)) (d:bp (bo×af)) (f:bp (bo×aj)) (e:bo) (c:bC) (g h:ag) (b:aL->bv a):iD tt d f e c g h b=(iD tt d f e c g h bn).bind b:=by
 unfold iD;split
 ·rfl
 split
 ·split
  case h_2=>rfl
  rw[jN];congr 1;split
  ·grind
  grind
 ·split
  case h_2=>rfl
  split
  case h_2=>rfl
  grind
 ·split
  case h_2=>rfl
  grind
 ·grind
 rfl
theorem yg (tt:bp (bC×af)) (d:bp (bo×af)) (f:bp (bo×aj)) (e:bo) (c:bC) (g h:ag) (b:aL->bv a):h1 tt d f e c g h b=(h1 tt d f e c g h bn).bind b:=by
 unfold h1;split
 ·unfold oj;split
  case h_2=>rfl
  split
  case h_2=>rfl
  grind
 grind [yc]
theorem yU (tt:bp (bC×af)) (e:bp (bo×aj)) (d:bo) (c:bC) (f g:ag) (b:aL->bv a):jO tt e d c f g b=(jO tt e d c f g bn).bind b:=by
 unfold jO;split
 ·rfl
 split
 ·split
  case h_2=>rfl
  grind
 ·split
  case h_2=>rfl
  grind
 rfl
theorem yr (tt:bp (bC×af)) (d:bp (bo×af)) (g:bp (bo×aj)) (f:bH->ag) (e:bo) (c:bC) (h:bp (bo×bH)) (b:aL->bv a):kJ tt d g f e c h b=(kJ tt d g f e c h bn).bind b:=by
 unfold kJ;split
 ·rfl
 split
 ·rw[jN];congr 1;split
  ·grind
  rfl
 rw[jN];congr 1;split
 ·rfl
 split
 ·grind
 rfl
theorem yz (tt:bp (bC×af)) (d:bp (bo×af)) (f:bp (bo×aj)) (e:bo) (c:bC) (g:ag) (b:aL->bv a):lL tt d f e c g b=(lL tt d f e c g bn).bind b:=by
 unfold lL;split
 ·split
  ·grind
  ·grind
  rfl
 rfl
theorem yC (tt:bp (bC×af)) (d:bp (bo×af)) (g:bp (bo×aj)) (f:bH->ag) (e:bo) (c:bC) (h:bo) (i:bp (bo×bH)) (b:aL->bv a):kL tt d g f e c h i b=(kL tt d g f e c h i bn).bind b:=by
 unfold kL;split
 ·grind
 rfl
theorem oH {e:cU} (c:bH->ag) (d:bp (bo×aj)) (f:bJ) (b:aL->bv a):ak e c d f b=(ak e c d f bn).bind b:=by
 unfold ak;split
 ·split
  ·grind [EE]
  ·grind [sD]
  ·grind [sD]
  ·grind [zo]
  ·grind [AS]
  rfl
 rw[jN];congr 1;split
 ·grind
 ·split
  case h_2=>rfl
  split
  ·rfl
  simp_all [gM,Option.bind_assoc,jN,IX]
 ·split
  case h_2=>rfl
  rw[jN];grind [yg]
 ·grind [yU]
 ·split
  ·rfl
  ·rfl
  ·rfl
  ·grind
  grind
 ·grind [yr]
 ·grind [AY]
 ·grind [yz]
 ·grind [yC]
 grind
theorem zh {e:cU} (c:bH->ag) (d:bp (bo×aj)) (f:bJ) (b:aL->bv a):fQ e c d f b=(fQ e c d f bn).bind b:=by
 unfold fQ;split
 ·grind [oH]
 rw[jN];congr 1;refine(oH _ _ _ _).trans (Eq.trans ?_ (cp (λg=>bW g b) (oH _ _ _ _)).symm);grind
def Af (a:bp ax):eD a []=jg a:=by cases a<;>rfl
def sU (a:bp ax):eP a %7=match a with|[]=>0|.deref::_=>1|.unst::_=>2|.fst::_=>3|.snd::_=>4|.unn::_=>5|.idx _::_=>6:=by
 cases a with
 |nil=>rfl
 |cons b a=>cases b<;>simp only[eP]<;>omega
def sT (a:ax) (b:bp ax) (c:∀d,a≠.idx d):eP (a::b)/7=eP b:=by cases a<;>simp only[eP]<;>first|omega|exact absurd rfl (c _)
def wW (a:ax) (b:bp ax):bB (eP (a::b)) 0=bw:=by
 cases c:bB (eP (a::b)) 0 with
 |false=>rfl
 |true=>
  have:=a7 c;cases a<;>simp only[eP] at this<;>omega
theorem p3:∀{b c:bp ax},j2 b (eP c)=bu->eD b c=bu
 |[],_,a=>by cases a
 |s::b,[],a=>by rw[Af];exact a
 |s::b,e::c,a=>by have d:=@p3 b c;simp only[j2,wW,cq,sU] at a;cases s<;>cases e<;>simp_all [sT,eD]<;>first|exact d a|skip
theorem xw:∀{a c:bp ax},lm a (eP c)=bu->(hW a c).isSome=bu
 |[],_,b=>by cases b
 |s::a,[],b=>by have d:hW (s::a) []=ke (s::a):=(by cases s<;>rfl);rw[d];exact b
 |s::a,e::c,b=>by have f:=@xw a c;simp only[lm,wW,cq,sU] at b;cases s<;>cases e<;>simp_all [sT,hW]
theorem uX:∀{b c:bp ax},jQ b (eP c)=bu->gd b c=bu
 |[],_,a=>by cases a
 |s::b,[],a=>by cases s<;>simp[jQ,eP] at a
 |s::b,d::c,a=>by have e:=@uX b c;simp only[jQ,sU] at a;cases s<;>cases d<;>simp_all [sT,gd]
theorem Cm {id:bo} (b:mw o f=bu) (d:jM e=bn (id,f)) (l:∀j∈e.ids,j=id\/j∉h):fO h [(id,o),(id,[])] e=bu:=by
 have p:∀c:bo,bB c c=bu:=lz;unfold jM at d;split at d
 ·rename_i c a;cases d;have ak:(3*eP a+1) %3=1:=U;have g:(3*eP a+1)/3=eP a:=U;simp only[mw,ak,g] at b;have:=p3 b;grind [fO,gj]
 ·rename_i c a;cases d;have ak:(3*eP a+2) %3=2:=U;have g:(3*eP a+2)/3=eP a:=U;simp only[mw,ak,g,gq] at b;have:pZ o a=bu:=by
   unfold pZ;rcases b with b|b
   ·simp[p3 b]
   simp[xw b]
  grind [fO,gj]
 ·rename_i c a u t k;split at d
  case h_2=>cases d
  rename_i r;cases d;have q:gd o a=bu:=(by have ak:(3*eP a+3) %3=0:=U;have g:(3*eP a+3)/3-1=eP a:=U;simp only[mw,ak,g] at b;exact uX b);have s:(k.all λc=>!(a5 c h))=bu:=cX.2 λn m=>by
   rcases l n (eJ _ m) with i|i
   ·grind [ey]
   grind [ey]
  show((k.all λc=>!(a5 c h))&&([(id,o),(id,[])].any λi=>bB i.1 id&&gd i.2 a))=bu;grind
 ·rename_i c a;cases d;have ak:(3*eP a+1) %3=1:=U;have g:(3*eP a+1)/3=eP a:=U;simp only[mw,ak,g] at b;have:=p3 b;grind [fO,gj]
 grind
section
theorem sB {g B:bH->ag} {b:bp (bo×bH)} (d:∀e∈b,g e.2=B e.2):∀(f:af) (a:bo),jk g b f a=jk B b f a
 |.pr j h,a=>by
  simp only[jk,sB d h (a+1)];cases i:g9 b a with
  |none=>rfl
  |some c=>
   have:g c=B c:=d (a,c) (oQ i);grind
 |.nil,_|.int _,_|.bool,_|.str,_|.au _ _,_|.ptr _ _,_|.osl _,_|.opt _ _,_|.st _,_|.aY,_|.mp _,_|.bh _ _,_|.fn _ _,_|.nu _ _,_|.aM,_|.aB _,_|.eB _,_=>rfl
theorem wb {h:bp (bo×aj)} {g B:bH->ag} {b:bp (bo×bH)} (d:∀e∈b,g e.2=B e.2):∀(f:af) (a:bo),hH h g b f a=hH h B b f a
 |.pr k i,a=>by
  simp only[hH,wb d i (a+1)];cases j:g9 b a with
  |none=>rfl
  |some c=>
   have:g c=B c:=d (a,c) (oQ j);grind
 |.nil,_|.int _,_|.bool,_|.str,_|.au _ _,_|.ptr _ _,_|.osl _,_|.opt _ _,_|.st _,_|.aY,_|.mp _,_|.bh _ _,_|.fn _ _,_|.nu _ _,_|.aM,_|.aB _,_|.eB _,_=>rfl
section
variable {tt:bp (bC×af)} {an:bp (bo×af)} {h A:bp (bo×aj)} {d:bo} {g B:bH->ag}
theorem qi {a:dW} (c:∀b∈a.toArray,g b=B b):a.map g=a.map B:=by
 cases a with
 |none=>rfl
 |some b=>grind
theorem zu {f:Op} (b:∀a∈f.operands,g a=B a):eA tt an h g d f=eA tt an h B d f:=by
 cases f
 case build T ps=>
  have:∀e∈ps.toList,g e.2=B e.2:=λe o=>b e.2 (by simp only[bO,n9,c9];grind);grind [sB,eA,oq]
 case buildSlice T n ps=>
  have:∀e∈ps.toList,g e.2=B e.2:=λe o=>b e.2 (by simp only[bO,n9,c9];grind);grind [H7,eA,ni]
 case slice T a k j q=>
  simp only[bO] at b;have u:g a=B a:=b a aa;have v:k.map g=k.map B:=qi (λi p=>b i ab);have w:j.map g=j.map B:=qi (λi p=>b i ab);cases q
  ·grind [eA]
  rfl
 case makeMap T r=>
  cases r<;>rfl
 case makeFunc m t cs=>
  cases m<;>try rfl
  grind [H7,er,eA,bO]
 case call c=>
  obtain⟨s,l,z⟩:=c;have x:∀a∈l.toList,g a=B a:=λa y=>b a (by grind [er,bO,eo]);clear b;simp only[eA];split
  ·grind
  ·grind [H7]
  ·grind [H7]
  rfl
 all_goals (simp only[bO] at b;simp only[eA])
 all_goals (first|rfl|(simp_all;done))
theorem zx {e:Op} (b:∀a∈e.operands,g a=B a):gg tt an h g d e=gg tt an h B d e:=by
 cases e
 case slice T a k j m=>
  simp only[bO] at b;have i:g a=B a:=b a aa;have o:k.map g=k.map B:=qi (λf l=>b f ab);have p:j.map g=j.map B:=qi (λf l=>b f ab);cases m
  ·simp_all [gg]
  rfl
 case call c=>
  grind [er,ak,gg,bO,eo]
 case unOp n T a=>
  have i:g a=B a:=b a (by simp[bO]);cases n<;>simp only[gg,i]
 all_goals (simp only[bO] at b;simp only[gg])
 all_goals (first|rfl|(simp_all;done))
theorem uZ {l:cU} {r:aL->bv a} (c:∀j∈k.op.operands,g j=B j):ak l g h k r=ak l B h k r:=by
 have x:=λ(d:bo)=>zx (tt:=l.tt) (an:=l.an) (h:=h) (d:=d) c;have w:=λ(d:bo)=>zu (tt:=l.tt) (an:=l.an) (h:=h) (d:=d) c;unfold ak;cases y:k.dst with
 |none=>
  simp only;split
  ·grind [bO]
  ·grind [bO]
  ·grind [bO]
  ·grind [bO]
  ·rename_i i t e;rw[e] at c;split
   ·rename_i j u m s ak _;have p:∀b∈i.toList,g b=B b:=λb n=>c b (by grind [er,bO,eo]);grind
   rfl
  rfl
 |some d=>
  simp only;congr 1;split
  ·grind [bO]
  ·rename_i b i _ e;rw[e] at c;have:i.toList.map g=i.toList.map B:=hf λj p=>c j (by grind [er,bO,eo]);have n:g b=B b:=c b (by simp[bO,eo]);rw[this,n]
  ·rename_i i t e;rw[e] at c;split
   ·rename_i j u m s ak _;have p:∀b∈i.toList,g b=B b:=λb n=>c b (by grind [er,bO,eo]);grind
   rfl
  ·rename_i i t e;rw[e] at c;split
   ·rename_i j u m s ak _;have p:∀b∈i.toList,g b=B b:=λb n=>c b (by grind [er,bO,eo]);grind
   rfl
  ·grind [bO]
  ·rename_i m q e;rw[e] at c;have o:∀f∈q.toList,g f.2=B f.2:=λf v=>c f.2 (by simp only[bO,n9,c9];grind);simp only[kJ,sB o,wb o]
  ·grind [bO]
  ·grind [bO]
  ·rename_i m z q e;rw[e] at c;have o:∀f∈q.toList,g f.2=B f.2:=λf v=>c f.2 (by simp only[bO,n9,c9];grind);grind [H7,kL]
  grind
def c3 (h A:bp (bo×aj)) (a:ag):Prop:=∀id∈a.ids,ah h id=ah A id
def Cr (a:c3 h A e):j8 h e=j8 A e:=by
 cases e with
 |ref id b=>simp only[j8,a id (by simp[bM])]
 |_=>rfl
theorem Cq {id:bo} (a:j8 h e=bn (id,o)):id∈e.ids:=by
 unfold j8 at a;split at a
 ·grind [bM]
 ·grind [bM]
 grind
theorem EF {c:aL->bv a} (d:c3 h A t) (g:c3 h A e):kf tt h b t e c=kf tt A b t e c:=by
 unfold kf;rw[<-Cr d];split
 ·rfl
 rename_i id j f;rw[d id (Cq f)];cases e with
 |ref i k=>simp only[g i (by simp[bM])]
 |_=>rfl
theorem xR (a:c3 h A e):gF h j e=gF A j e:=by
 cases e with
 |ref id b|view id b f d=>simp only[gF,a id (by simp[bM])]
 |val c i=>cases c<;>rfl
 |aS g=>unfold gF;grind
 |_=>rfl
theorem ye {j:aL->bv a} (f:c3 h A t) (k:c3 h A e) (n:ah h d=ah A d):iD tt an h d b t e j=iD tt an A d b t e j:=by
 unfold iD;split
 ·rfl
 have g:∀i:af,gF h i e=gF A i e:=λi=>xR k;cases t with
 |ref id c=>
  cases c with
  |nil=>
   simp only[f id (by simp[bM]),g];cases e with
   |ref o l=>
    cases l with
    |nil=>simp only[k o (by simp[bM])]
    |cons m l=>rfl
   |_=>rfl
  |cons m c=>simp only[f id (by simp[bM]),g,n]
 |view id c q p=>
  cases c with
  |nil=>simp only[f id (by simp[bM]),g]
  |cons m c=>rfl
 |aS r=>grind
 |_=>rfl
def Ck (c:c3 h A e):mv h t e=mv A t e:=by
 unfold mv;cases t with
 |ref id a=>
  cases a with
  |nil=>rfl
  |cons f a=>
   cases e with
   |ref d b=>
    cases b with
    |nil=>simp only[c d (by simp[bM])]
    |cons g b=>rfl
   |_=>rfl
 |_=>rfl
theorem yh {c:aL->bv a} (g:c3 h A e) (i:c3 h A t) (f:ah h d=ah A d):h1 tt an h d b e t c=h1 tt an A d b e t c:=by
 unfold h1;rw[Ck i,ye g i f];split
 ·rename_i id l k m j;obtain⟨rfl,_,_⟩:=sS j;unfold oj;rw[g id (by simp[bM]),f]
 rfl
theorem yV {g:aL->bv a} (i:c3 h A t) (k:c3 h A e):jO tt h d b t e g=jO tt A d b t e g:=by
 unfold jO;split
 ·rfl
 have j:∀f:af,gF h f e=gF A f e:=λf=>xR k;cases t with
 |ref id c=>
  cases c with
  |nil=>simp only[i id (by simp[bM]),j]
  |cons l c=>rfl
 |view id c n m=>
  cases c with
  |nil=>simp only[i id (by simp[bM]),j]
  |cons l c=>rfl
 |_=>rfl
theorem re (b:c3 h A e):i7 an h d e=i7 an A d e:=by
 cases e with
 |ref id a=>
  cases a with
  |nil=>simp only[i7,b id (by simp[bM])]
  |cons c a=>rfl
 |view id a g f=>
  cases a with
  |nil=>simp only[i7,b id (by simp[bM])]
  |cons c a=>rfl
 |aS e=>unfold i7;grind
 |_=>rfl
def Cl (b:c3 h A e):nM h j e=nM A j e:=by
 cases e with
 |ref id a=>
  cases a with
  |nil=>simp only[nM,b id (by simp[bM])]
  |cons c a=>rfl
 |_=>rfl
def wc {b:bp (bo×bH)} (c:∀i∈b,c3 h A (g i.2)):∀(d:af) (a:bo),hH h g b d a=hH A g b d a
 |.pr k e,a=>by
  simp only[hH,wc c e (a+1)];cases f:g9 b a with
  |none=>rfl
  |some j=>simp only[Cl (c (a,j) (oQ f))]
 |.nil,_|.int _,_|.bool,_|.str,_|.au _ _,_|.ptr _ _,_|.osl _,_|.opt _ _,_|.st _,_|.aY,_|.mp _,_|.bh _ _,_|.fn _ _,_|.nu _ _,_|.aM,_|.aB _,_|.eB _,_=>rfl
def yO (b:c3 h A e):lP h j e=lP A j e:=by
 cases e with
 |ref id a=>
  cases a with
  |nil=>simp only[lP,b id (by simp[bM])]
  |cons c a=>rfl
 |_=>rfl
def ud {c:af}:∀{l:bp ag},(∀a∈l,c3 h A a)->lQ h c l=lQ A c l
 |[],_=>rfl
 |x::d,b=>by simp only[lQ,yO (b x aa),ud (l:=d) (λa e=>b a ab)]
def rb {a:ei} {v:ag} (b:c3 h A v):hi h a v j=hi A a v j:=by
 cases v with
 |ref id c|addr id c=>simp only[hi,b id (by simp[bM])]
 |_=>rfl
theorem ag.sA {f:bo} {id:bo} (b:e∈O) (d:id∈e.ids):id∈(ag.aR f O).ids:=by obtain⟨a,c,rfl⟩:=kw.1 b;exact ag.oS (l:=O) (i:=a) (fq c) d
def tV {a:ei} (b:c3 h A e):lN h a e j=lN A a e j:=by
 unfold lN;split
 ·rename_i c f;rw[rb (v:=c) (λid d=>b id (by simpa[bM] using d))]
 exact rb b
def tX {c:ei}:∀{l:bp ag} {b:af},(∀a∈l,c3 h A a)->kM h c l b=kM A c l b
 |[],b,_=>by cases b<;>rfl
 |a::l,b,d=>by
  cases b<;>first|rfl|skip
  simp only[kM,tV (d a aa),tX (l:=l) (λa e=>d a (by simp[e]))]
def yI {a:ei} (b:c3 h A e):nj h a e j=nj A a e j:=by
 unfold nj;split
 ·rename_i i c m n;rw[tX (l:=c) (λk d id g=>b id (by
   have:=ag.sA (f:=i) d g;simpa[bM] using this))]
 exact tV b
def vn {b:ei}:∀{τs:bp af} {avs:bp ag},(∀a∈avs,c3 h A a)->iH h b τs avs=iH A b τs avs
 |[],[],_|[],_::_,_|_::_,[],_=>rfl
 |τ::e,d::as,c=>by simp only[iH,yI (c d aa),vn (τs:=e) (avs:=as) (λa f=>c a ab)]
theorem jX {S:ei}:∀{ps:bp cN} {avs:bp ag},(∀b∈avs,c3 h A b)->cH h S ps avs=cH A S ps avs
 |[],[],_|[],_::_,_=>rfl
 |p::e,[],_=>by cases p<;>rfl
 |.v q::e,f::as,a=>by simp only[cH,rb (a f aa),jX (ps:=e) (avs:=as) (λb i=>a b ab)]
 |.c C r::e,f::as,a=>by
  have g:=jX (S:=S) (ps:=e) (avs:=as) (λb i=>a b ab);cases f with
  |aR u j=>
   have:iH h S r j=iH A S r j:=vn (λb i id t=>a (.aR u j) aa id (ag.sA i t));grind [cH]
  |_=>rfl
 |.mg _ q::e,f::as,a=>by
  have g:=jX (S:=S) (ps:=e) (avs:=as) (λb i=>a b ab);cases f with
  |ref id p=>
   cases p with
   |nil=>simp only[cH,a (.ref id []) aa id (by simp[bM]),g]
   |cons m p=>rfl
  |_=>rfl
 |.o q::e,f::as,a=>by
  have g:=jX (S:=S) (ps:=e) (avs:=as) (λb i=>a b ab);cases f with
  |ref id p=>
   cases p with
   |nil=>simp only[cH,a (.ref id []) aa id (by simp[bM]),g]
   |cons m p=>rfl
  |aS x=>grind [cH]
  |_=>rfl
 |.w E::e,f::as,a=>by
  have g:=jX (S:=S) (ps:=e) (avs:=as) (λb i=>a b ab);cases f with
  |view id p l k=>
   cases p with
   |nil=>simp only[cH,a (.view id [] l k) aa id (by simp[bM]),g]
   |cons m p=>rfl
  |_=>rfl
 |.n::e,f::as,a=>by
  have g:=jX (S:=S) (ps:=e) (avs:=as) (λb i=>a b ab);cases f with
  |aS x=>grind [cH]
  |_=>rfl
 |.s z j::e,f::as,a=>by
  have g:=jX (S:=S) (ps:=e) (avs:=as) (λb i=>a b ab);cases f with
  |ref id p|view id p l k=>grind [cH]
  |_=>simp only[cH,g]
 |.d B D y::e,f::as,a=>by
  have g:=jX (S:=S) (ps:=e) (avs:=as) (λb i=>a b ab);cases f with
  |ref id p|view id p l k=>grind [cH]
  |_=>simp only[cH,g]
theorem AB (a:c3 h A e):mh tt h b e=mh tt A b e:=by
 unfold mh;cases e with
 |ref id d|app id d c j f=>simp only[a id (by simp[bM])]
 |val c k=>cases ew tt b with|none=>rfl|some g=>cases c<;>rfl
 |aS i=>grind
 |_=>rfl
theorem A4 (a:c3 h A e):mn tt h b e=mn tt A b e:=by
 unfold mn;cases e with
 |ref id d=>simp only[a id (by simp[bM])]
 |val c g=>cases gA tt b with|none=>rfl|some f=>cases c<;>rfl
 |_=>rfl
def AG (a:c3 h A e):ml tt h b e t T=ml tt A b e t T:=by
 unfold ml;cases e with
 |ref id d=>simp only[a id (by simp[bM])]
 |val c f=>split<;>first|rfl|(cases c<;>rfl)
 |_=>split<;>rfl
theorem A2 (a:ah h d=ah A d):nH tt an h d b=nH tt an A d b:=by grind [nH]
theorem sE {c:aL->bv a} {d:ag} (f:c3 h A e):ia tt h b e t d c=ia tt A b e t d c:=by
 unfold ia;cases e with
 |ref id g=>simp only[f id (by simp[bM])]
 |_=>rfl
theorem AZ {c:aL->bv a} (f:c3 h A e):j4 tt h d b e t c=j4 tt A d b e t c:=by
 unfold j4;cases e with
 |ref id g=>simp only[f id (by simp[bM])]
 |_=>rfl
theorem zp {c:aL->bv a} {d:ag} (f:c3 h A e):jR tt h b e t d c=jR tt A b e t d c:=by unfold jR;grind [sE]
theorem AT {c:aL->bv a} (d:c3 h A e):j3 tt h b e t c=j3 tt A b e t c:=by
 unfold j3;cases e with
 |ref id f=>simp only[d id (by simp[bM])]
 |_=>rfl
def z9 (a:c3 h A e):ma tt h b e t=ma tt A b e t:=by
 unfold ma;cases e with
 |ref id c|view id c g f=>simp only[a id (by simp[bM])]
 |val d j=>cases d<;>rfl
 |aS i|_=>rfl
theorem AE (a:c3 h A e):mj tt h b e=mj tt A b e:=by
 unfold mj;cases e with
 |ref id c|addr id c=>simp only[a id (by simp[bM])]
 |val d g=>cases d<;>first|rfl|grind
 |aS f|_=>rfl
theorem zB (a:c3 h A e):l0 tt h b e f=l0 tt A b e f:=by
 unfold l0;cases e with
 |ref id c|addr id c=>simp only[a id (by simp[bM])]
 |val d i=>cases d<;>first|rfl|grind
 |aS g|_=>rfl
def zD (a:c3 h A e):gG.ns tt h b e f=gG.ns tt A b e f:=by
 unfold gG.ns;cases e with
 |ref id d=>simp only[a id (by simp[bM])]
 |val c i=>cases c<;>rfl
 |aS g|_=>rfl
def Bb (a:c3 h A e):ms h e=ms A e:=by
 unfold ms;cases e with
 |ref id c=>simp only[a id (by simp[bM])]
 |val b f=>cases b<;>rfl
 |aS d|_=>rfl
def Ez {c a:bv ag} (d:c3 h A e):mH tt h b e c a=mH tt A b e c a:=by
 unfold mH;cases e with
 |ref id g=>simp only[d id (by simp[bM])]
 |val f j=>cases f<;>rfl
 |aS i|_=>rfl
theorem AO (a:ah h d=ah A d):mm tt an h d b t e=mm tt an A d b t e:=by grind [mm]
theorem x8 (a:ah h d=ah A d):nc tt an h d b=nc tt an A d b:=by grind [nc]
theorem zv {e:Op} (b:∀a∈e.operands,c3 h A (g a)) (f:ah h d=ah A d):eA tt an h g d e=eA tt an A g d e:=by
 cases e
 case box T a=>grind [eA,ot]
 case buildSlice T n ps=>grind [eA,ni]
 case alloc T=>exact x8 f
 case makeSlice T l c=>exact AO f
 case makeMap T p=>
  cases p
  ·exact A2 f
  rfl
 case lookup T a k ok=>exact AG (b a (by simp[bO]))
 case load T a=>exact AE (b a (by simp[bO]))
 case nilCheck a=>exact Bb (b a (by simp[bO]))
 case indexAddr T a i=>exact z9 (b a (by simp[bO]))
 case fieldAddr T a n=>exact zB (b a (by simp[bO]))
 case field T a n=>exact zD (b a (by simp[bO]))
 case slice T a v s o=>
  cases o
  ·exact Ez (b a (by simp[bO]))
  rfl
 case call c=>
  obtain⟨q,j,w⟩:=c;have t:∀a∈j.toList,c3 h A (g a):=λa u=>b a (by grind [er,bO,eo]);clear b;simp only[eA];split
  ·grind [A4,AB]
  ·rfl
  ·rfl
  rfl
 case makeFunc m r cs=>cases m<;>rfl
 all_goals rfl
theorem zy {n:Op} (j:∀b∈n.operands,c3 h A (g b)) (z:ah h d=ah A d):gg tt an h g d n=gg tt an A g d n:=by
 cases n
 case lookup f b k ok=>
  have a:=j b (by simp[bO]);simp only[gg];split
  ·rename_i w id e B ak r y;rw[r] at a;rw[a id (by simp[bM])]
  rfl
 case makeSlice f l c=>grind [gg]
 case unOp v f b=>cases v<;>rfl
 case indexAddr f b i=>
  have a:=j b (by simp[bO]);simp only[gg];revert a;cases g b with
  |ref id e=>intro a;simp only[a id (by simp[bM])]
  |view id e t s=>
   intro a;cases e with
   |nil=>simp only[a id (by simp[bM])]
   |cons=>rfl
  |val m p=>intro _;cases m<;>rfl
  |_=>intro _;rfl
 case load f b=>
  have a:=j b (by simp[bO]);simp only[gg];revert a;cases g b with
  |ref id e|addr id e=>intro a;simp only[a id (by simp[bM])]
  |val m p=>intro _;cases m<;>rfl
  |_=>intro _;rfl
 case slice f b t s u=>
  have a:=j b (by simp[bO]);cases u
  ·simp only[gg];revert a;cases g b with
   |ref id e=>intro a;simp only[a id (by simp[bM])]
   |val m p=>intro _;cases m<;>rfl
   |_=>intro _;rfl
  rfl
 case call c=>
  obtain⟨x,q,C⟩:=c;have o:∀b∈q.toList,c3 h A (g b):=λb a=>j b (by grind [er,bO,eo]);clear j;simp only[gg];split
  ·rename_i b f ak _;rw[ak] at o;have a:=o b aa;cases ew tt f with
   |none=>
    revert a;cases g b with
    |ref id e=>intro a;simp only;rw[a id (by simp[bM])]
    |_=>intro _;rfl
   |some w=>
    revert a;cases g b with
    |ref id e=>intro a;simp only;rw[a id (by simp[bM])]
    |_=>intro _;rfl
  rfl
 all_goals rfl
theorem k9 {b:Callee} {a:bN bH} {c:bN bC} (d:m∈a.toList):m∈(Op.call {callee:=b,args:=a,argTypes:=c}).operands:=by grind [er,bO,eo]
theorem u0 {s:cU} {u:aL} (a:ak s g h k bn=bn u) (e:∀m∈k.op.operands,c3 h A (g m)) (p:∀d,k.dst=bn d->ah h d=ah A d) (q:∀b∈u.put,ah h b.1=ah A b.1):ak s g A k bn=bn u:=by
 unfold ak at a|-;cases v:k.dst with
 |none=>
  rw[v] at a;simp only at a|-;split at a
  ·grind [EF,bO]
  ·grind [sE,bO]
  ·grind [sE,bO]
  ·grind [zp,bO]
  ·grind [AT,k9]
  omega
 |some d=>
  rw[v] at a;have p:=p d v;simp only at a|-;cases G:cW s.n s.pin d with
  |false=>grind
  |true=>
  rw[G] at a;simp only[bK] at a|-;split at a
  ·omega
  ·rename_i J z _ i;rw[i] at e;split at a
   case h_2=>cases a
   rename_i D x I
   try rw[I]
   try simp only
   have F:∀j∈z.toList.map g++x,c3 h A j:=λj l=>by
    rcases fY.1 l with l|l
    ·grind [k9]
    intro id N;exact e J (by simp[bO,eo]) id (by grind [ag.sA])
   split at a
   ·cases a
   rename_i c K;cases E:bB c.f D with
   |false=>grind
   |true=>
   rw[E] at a;simp only[bK,gM] at a|-;rw[<-jX F];obtain⟨j,l,a⟩:=a1.1 a;obtain⟨o,H,a⟩:=a1.1 a;simp only[l,H,IX];cases C:g1 d ⟨[],h⟩ (z.toList.map g++x) (bd c.ps j o) (eO c.rs (eI c.ps o)) with
   |false=>grind
   |true=>
   rw[C] at a;have L:g1 d ⟨[],A⟩ (z.toList.map g++x) (bd c.ps j o) (eO c.rs (eI c.ps o))=bu:=(by rw[<-C];unfold g1;congr 1;rw[Jv,cX,cX];cases a;have w:∀b∈fh d (fg (eO c.rs (eI c.ps o))) 0 (eO c.rs (eI c.ps o)),ah h b.1=ah A b.1:=λb w=>q b ab;grind);grind
  ·grind [yh,k9]
  ·grind [yV,k9]
  ·rename_i m i;rw[i] at e;have r:=e m (by simp[bO]);revert a r;cases g m with
   |val T S=>grind
   |aS R|ref id t|view id t O M=>grind [re]
   |_=>intro a _;exact a
  ·rename_i B y i;rw[i] at e;have q:∀b∈y.toList,c3 h A (g b.2):=λb w=>e b.2 (by simp only[bO,n9,c9];grind);rw[<-a];simp only[kJ,wc q,p]
  ·grind [AZ,bO]
  ·rename_i B m i;rw[i] at e;have r:=e m (by simp[bO]);rw[<-a];simp only[lL,p];revert r;cases g m with
   |ref id t=>
    intro r;cases t with
    |nil=>simp only[r id (by simp[bM])]
    |cons Q t=>rfl
   |_=>intro _;rfl
  ·rename_i B P y i;rw[i] at e;have q:∀j∈y.toList.map (λb=>g b.2),c3 h A j:=λj l=>by
    obtain⟨b,w,rfl⟩:=c9.1 l;exact e b.2 (by simp only[bO,n9,c9];grind)
   rw[<-a];simp only[kL,ud q,p]
  grind [zy,zv]
end
theorem xN {d:Op}:∀e∈kh d,e∈d.operands:=by
 intro e b;cases d<;>simp only[kh] at b<;>first|(cases b;done)|skip
 case assign y=>grind [bO]
 case box T y=>grind [bO]
 case build T ps=>grind [bO]
 case buildSlice T n ps=>grind [bO]
 case store T a v=>grind [bO]
 case mapUpdate T a k v=>grind [bO]
 case insert T a k v=>grind [bO]
 case entryStore T a k v=>grind [bO]
 case call c=>
  obtain⟨g,f,h⟩:=c;simp only at b;split at b
  ·exact k9 b
  ·exact k9 (List.mem_of_mem_drop b)
  grind
theorem pS {e:ej} {f:bo} {g:bH->ag}:∀{a:dX},∀id∈hk e f g a,∃x∈a,g x=.ref id []
 |[],id,h=>by cases h
 |x::a,id,h=>by
  simp only[hk] at h;split at h
  ·rename_i j i;rw[Bool.cond_eq_ite] at h;split at h
   ·rcases c2.1 h with rfl|h
    ·grind
    obtain⟨d,c,b⟩:=pS id h;grind
   obtain⟨d,c,b⟩:=pS id h;grind
  obtain⟨d,c,b⟩:=pS id h;grind
def vk {a:ej} {c:bo} {g B:bH->ag}:∀{l:dX},(∀x∈l,g x=B x)->hk a c g l=hk a c B l
 |[],_=>rfl
 |x::l,b=>by simp only[hk,b x aa,vk (l:=l) (λd e=>b d ab)]
theorem vi {h A:bp (bo×aj)} {a:ei} (d:∀id∈a,ah h id=ah A id) (b:ag):ev h a b=ev A a b:=by
 cases b with
 |ref id c=>
  cases c with
  |nil=>
   grind [ey,a5,ev]
  |cons e c=>rfl
 |_=>rfl
theorem zH {h A:bp (bo×aj)} {a:ei} (e:∀id∈a,ah h id=ah A id) (b:ag):e9 h a b=e9 A a b:=by
 by_cases d:∃c,b=.bb c
 ·obtain⟨c,rfl⟩:=d;grind [H7,vi,e9]
 grind [r1,vi]
theorem vh {h:bp (bo×aj)} {c:ei}:∀id∈(ev h c e).ids,id∈e.ids:=by
 intro id b;rcases hj h c e with⟨f,d,rfl,_,_,a⟩|⟨a,_⟩|⟨a,_⟩
 ·rw[a] at b;have:(jV d).ids=[]:=(by unfold jV;split<;>rfl);grind
 ·rw[a] at b;cases b
 grind
def vF {c:ag->ag} (d:∀a,∀id∈(c a).ids,id∈a.ids):∀{b:bp ag} {id:bo},id∈Ia (b.map c)->id∈Ia b
 |[],_,h=>h
 |a::b,id,h=>by simp only[fm,Ia,fY] at h|-;exact h.imp (d a id) (vF d)
theorem zG {h:bp (bo×aj)} {b:ei}:∀id∈(e9 h b e).ids,id∈e.ids:=by
 by_cases d:∃a,e=.bb a
 ·obtain⟨a,rfl⟩:=d;exactλid c=>vF (λe=>vh) c
 grind [r1,vh]
theorem zj {i:cU} {g B:bH->ag} {h A:bp (bo×aj)} {f:aL} (b:fQ i g h k bn=bn f) (p:∀a∈k.op.operands,g a=B a) (o:∀a∈k.op.operands,c3 h A (g a)) (t:∀d,k.dst=bn d->ah h d=ah A d) (y:∀m∈f.put,ah h m.1=ah A m.1):fQ i B A k bn=bn f:=by
 unfold fQ at b|-;rw[<-vk (λa e=>p a (xN a e))];split
 ·rename_i j;rw[j] at b;rw[<-uZ p];grind [u0]
 rename_i x;split at b
 ·grind
 have j:∀id∈hk i.je (l3 k) g (kh k.op),ah h id=ah A id:=λid l=>(by obtain⟨a,e,f⟩:=pS id l;exact o a (xN a e) id (by grind [bM]));generalize hk i.je (l3 k) g (kh k.op)=c at b j|-;have r:hN A c=hN h c:=(by unfold hN;grind);rw[r];cases s:hN h c with
 |false=>grind
 |true=>
 rw[s] at b;simp only[bK] at b|-;rw[oH] at b|-;obtain⟨n,q,v⟩:=a1.1 b;have z:n.put=f.put:=ab;have w:ak i (λa=>e9 A c (B a)) (del c A) k bn=bn n:=by
  rw[<-uZ (g:=λa=>e9 h c (g a)) (λa e=>by grind [zH])];refine u0 q (λa e id l=>?_) (λd u=>?_) (λm C=>?_)
  ·rw[gQ,gQ,o a e id (zG id l)]
  ·rw[gQ,gQ,t d u]
  grind [gQ]
 grind
end
end Go.gG
end
