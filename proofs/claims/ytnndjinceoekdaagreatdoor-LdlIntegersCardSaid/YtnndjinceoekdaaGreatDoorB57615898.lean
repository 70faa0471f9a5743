/-
  Parts of the proof: Pl26, Pl27, Pl29, Pl30, Pl32, Pl36, Pl40, Pl41, Pl42, Pl43, Pm13, Pl45, Pl46, Pl48, Pl50, Pl51, Pl54, Pm14, Pm15, Pm16, Pm17, Pm18, Pm22, Pm24, Pm25, Pm26, Pm27, Pm29, Pm30, Pm31, Pm32, Pm33, Pm34, Pm51, Pm52, Pm54, Pm55, Pm57, Pm70, Pm71, Pm72, Pm73, Pm74, Pm75, Th5, Th6, Pm82, Pm83, Pm90, Pm38, Pm41, Pm42, Pm91, Pm84, Pm85, Pm86, Pm87, Pm88, Pm92, Pm93, Pm94, Pm95, Pm89, Pm97, Pm99, Pm100, Pm98, Pm101, Pm102, Pm103, Pm104, Pm105, Pm106, Pm96, Pm107, Pm45, Pm46, Pm47, Pm48: the framework (Fw), pure forms (Dn), plain laws (Pl, Th), calls of functions (Ok).
-/
import Derived.KernelRfl
import Derived.Test.YtnndjinceoekdaaGreatDoorBc59465c3

set_option linter.all false
set_option maxHeartbeats 1000000
open _root_ renaming Nat->X,Int->Z,Bool->bz,List->bm,Option->bu,Unit->bt,rfl->bn,decide_true->amb,cond_true->bF,cond_false->bP,decide_eq_decide->cB,if_true->ck,forall_const->apC,implies_true->apD,not_true_eq_false->ane,congrArg->b3,if_false->alV,not_not_intro->ale,beq_self_eq_true->alJ,decide_eq_true_eq->alB,Decidable->alQ,if_pos->ca,if_neg->b8,decide_eq_true->alg,decide_eq_false_iff_not->apJ,of_decide_eq_true->anD,decide_eq_false->alK
open Option renaming some->Y,bind_some->bN,map_some->anc,bind->bB,none->bo
open List renaming getElem?_eq_getElem->bX,replicate->bJ,getD->amk,range->bI,pairwise_iff_getElem->cA,getElem_inj->ang,length_range->aox,filter_eq_self->amN,length_filter_le->alF,range_succ->alG,mem_iff_getElem->al7,take_add_one->ali,getElem_mem->b6,take_of_length_le->ch,mem_cons_self->amE,map_congr_left->alA,mem_of_find?_eq_some->aqM,take_sublist->anS,nodup_append->aog,mem_singleton->alh,length_set->anI,take_length->cy,take_append_drop->anA,decidableBAll->aqR,filter->anE,length_pos_of_mem->aqT,getElem?_eq_some_iff->al1,pairwise_lt_range->apn,flatMap_def->aqU,range'->alw,Nodup->aoC,range_eq_range'->apK,flatMap->aoD,eq_nil_iff_forall_not_mem->aqV,filter_nil->aov,append_assoc->amD,mem_take_iff_getElem->anR,mem_append_right->aoe,getElem?_inj->an7,length->cz,takeWhile_append_dropWhile->apL,foldl_cons->aoE,length_map->b9,mem_of_mem_take->aqX,range'_concat->aqY,nodup_range->aoF,mem_range->anh,mem_filter->aqZ,length_append->alO,length_singleton->anU,dropWhile_sublist->aq0,pairwise_cons->ant,mem_flatMap->anV,getElem_idxOf->aoG,length_take->alD,getElem?_eq_none->am0,filter_map->aoT,map_singleton->aq1,take_zero->anN,flatMap_nil->aq2,length_cons->apm,sum_cons->apM,sum_append->apN,getD_eq_getElem?_getD->aq3
open Option.some renaming injEq->amu,inj->alU
open Bool renaming true->bp,false->bq,false_and->ao5,and_true->aoi,true_and->anB
open Go.jN.ae renaming aO->bG,af->bv,eq_iff->bO,loop->alv,steps->bR,bs->bA,ite->amF
open Go.IntKind renaming i64->bK,u64->bD
open Go.jN renaming wrap64->cu
open Int renaming toNat_natCast->alL,sub_zero->aop,eq_ofNat_of_zero_le->ald,toNat->alH,pow_pos->aoy,mul_ne_zero->anT,mul_zero->am8,mul_left_comm->apG,natAbs->amG,mul_assoc->anO,mul_comm->alM,lt_irrefl->aqW
open Decidable renaming decide->br
open Go.jN.kl renaming symm->apE
open List.Perm renaming refl->anf,append_left->aoh
open Go.Lib renaming compact->al5,keeps->aow
open Nat renaming lt_or_ge->cn,ble->b2,ble_eq_true_of_le->aqL,le_refl->cf,le_trans->cx,le_of_eq->amT,add_mul->aqN,one_mul->aoz,mul_add_div->apB,div_eq_of_lt->aot,add_assoc->aoA,pow_succ'->aqO,mul_left_comm->apH,mul_right_comm->apI,add_comm->anr,le_mul_of_pos_left->aqP,le_div_iff_mul_le->apr,le_of_not_lt->aqQ,and_two_pow_sub_one_eq_mod->apo,sub_self->amm,lt_succ_self->ani,lt_irrefl->amS,beq->bH
open List.Pairwise renaming map->ars,sublist->aqJ,imp_of_mem->arv,nil->ans
open List.Nodup renaming sublist->apF
open List.Sublist renaming append->art,refl->aru
open Rat renaming mul_nonneg->aoB
open Classical renaming not_not->aqS
open BitVec renaming ofInt->cg
noncomputable section
namespace Go.jN
variable{a b g v:X}{c j w:Z}{d p q z:ala}{f P:ak9}{h t:X->X->bz}{k:Type}{l:bm eE}{n:bu (Z×((bm aM×bt)×(bm (bu (bm (Z×cS)×X))×bt)))}{o:bm (bm gB)}{s:eu}{u:X->X}{x:bm (bu (bm (Z×cS)×X))}{y:X->X->Rat}{O:eA}{Q:cY}{R:Z->Prop}{S:bm (Rat×(X->Rat))}{T:Z->bu (cS×bt)}
def cJ (a:bm eE):X->X
 |0=>0
 |k+1=>((a[k]?).map λ(b:eE)=>b.2.1.toNat).getD 0
def ry (d:X) (c:bm eE) (b:X):Prop:=∃a:eE,c[b]?=Y a/\a.1=(cJ c b:Z)/\(cJ c b:Z)<a.2.1/\a.2.1<=(d:Z)
def oB (c:X) (a:bm eE):Prop:=(∀b,b<a.length->ry c a b)/\cJ a a.length=c
theorem Wt (b:a<l.length) (c:0<=l[a].2.1):(cJ l (a+1):Z)=l[a].2.1:=by grind [bX,cJ]
theorem ry.at (h:a<l.length) (c:ry b l a):l[a].1=(cJ l a:Z)/\l[a].2.1=(cJ l (a+1):Z)/\cJ l a<cJ l (a+1)/\cJ l (a+1)<=b:=by obtain⟨i,d,e,f,g⟩:=c;grind [Wt,amu,bX]
theorem Ws (f:∀e,e<a->e<l.length/\ry b l e):∀d c,d<=c->c<=a->cJ l d<=cJ l c:=by
 intro d c m
 induction c with
 |zero=>grind
 |succ c j=>
  intro n;rcases cU d (c+1) with g|g
  ·have k:=j aa aa;obtain⟨h,i⟩:=f c aa;have:=i.at h;omega
  grind
theorem C6 {m:X} (e:∀a,a<m->a<l.length/\ry g l a) (n:a<m) (h:cJ l a<=b) (i:b<cJ l (a+1)):∀c,a<c->c<=m->iN (cJ l) b c=(a:Z):=by
 intro c
 induction c with
 |zero=>omega
 |succ d o=>
  intro j k;rcases cU a d with f|f
  ·have:=Ws e (a+1) d aa aa;grind [jN.iN]
  obtain rfl:d=a:=aa;simp_all [au,jN.iN]
theorem C5 (e:oB b l) (f:a<b):∃c,c<l.length/\cJ l c<=a/\a<cJ l (c+1):=by
 have g:∀d,d<=l.length->a<cJ l d->∃c,c<d/\cJ l c<=a/\a<cJ l (c+1):=by
  intro d
  induction d with
  |zero=>intro _ e;exact absurd e (oL _)
  |succ d j=>
   grind
 obtain⟨c,h,i⟩:=g l.length (bc _) (by rw[e.2];exact f);grind
theorem WS (b:bm eE) (D:a<=200) (C:b.length<4611686018427387904):ae (EO (b,(a:Z),())) (λf=>(f.2.1=bp↔oB a b)/\(oB a b->f.1=az a (λg=>iN (cJ b) g b.length))):=by
 classical
 unfold EO;refine bG (P:=λv=>match v with|.inl f=>(∀c,c<b.length->ry a b c)/\f.1=az (cJ b b.length) (λg=>iN (cJ b) g b.length)|.inr f=>¬oB a b/\f=([],bq,())) ?_ ?_
 ·refine ae.for b.length (λc w=>(∀d,d<c->d<b.length->ry a b d)/\w.1=az (cJ b c) (λg=>iN (cJ b) g c)) (i0:=0) rfl ⟨λd e=>by omega,bn⟩ (eJ _) ?_ ?_
  ·rintro c ⟨u,⟨⟩⟩ _ k ⟨p,i⟩;simp only at i;subst i;have q:∀d,d<c->d<b.length/\ry a b d:=λd o=>⟨aa,p d o aa⟩;have B:cJ b c<=a:=by
    cases c with
    |zero=>exact eJ _
    |succ c=>exact((q c aa).2.at aa).2.2.2
   have s:=gJ (cE k);simp(disch:=omega) only[c7,au,s,aI,cI,fQ];have A:¬(b[c].1=(cJ b c:Z)/\(cJ b c:Z)<b[c].2.1/\b[c].2.1<=(a:Z))->¬oB a b:=λe l=>(by obtain⟨E,j,n⟩:=l.1 c k;grind);by_cases h:b[c].1=(cJ b c:Z)
   ·by_cases x:b[c].2.1<=b[c].1
    ·simp only[h,amb,iG,show(bq==bq)=bp from rfl,bF,aH (aa:b[c].2.1<=(cJ b c:Z)),show(bp==bq)=bq from rfl,bP,aI];grind [bv]
    by_cases m:b[c].2.1>(a:Z)
    ·simp only[h,amb,iG,show(bq==bq)=bp from rfl,bF,aD (aa:¬b[c].2.1<=(cJ b c:Z)),aH m,aI];grind [bv]
    have r:ry a b c:=⟨b[c],cE k,h,aa,aa⟩;obtain⟨j,n,y,z⟩:=r.at k;have t:bK.wrap (b[c].2.1-b[c].1)=((cJ b (c+1)-cJ b c:X):Z):=(by rw[j,n,ahF aa aa]);simp only[h,amb,iG,show(bq==bq)=bp from rfl,bF,aD (aa:¬b[c].2.1<=(cJ b c:Z)),aD m,bP,aI];rw[<-h];rw[t,Vg _ aa aa];simp(disch:=omega) only[aI,sW,e3,lJ,cI];refine bv.2 ⟨bn,λd o e=>?_,?_⟩
    ·grind
    show az (cJ b c) (λg=>iN (cJ b) g c)++bJ (cJ b (c+1)-cJ b c) (c:Z)=_;grind [df,jk,A7,jN.iN,cJ]
   simp only[aD h,oA,show(bp==bq)=bq from rfl,bP,bF,aI];grind [bv]
  simp_all [c7,ar,bv]
 rintro(⟨u,⟨⟩⟩|f) e
 ·obtain⟨j,i⟩:=e;simp only at i;subst i;simp only[cI];refine bv.2 ⟨?_,λl=>?_⟩
  ·show(((cJ b b.length:X):Z)==(a:Z))=bp↔_;rw[beq_iff_eq];exact⟨λe=>⟨j,aa⟩,λe=>by have:=e.2;omega⟩
  show az (cJ b b.length) _=_;rw[l.2]
 grind [bv]
def rL (c:X) (a:eE) (b:X):Prop:=∀d:b<a.2.2.1.length,(b<(a.2.1-a.1).toNat->a.2.2.1[b]=a.1+(b:Z))/\((a.2.1-a.1).toNat<=b->a.2.1<=a.2.2.1[b]/\a.2.2.1[b]<(c:Z)/\a.2.2.1[b-1]<a.2.2.1[b])
def mV (c:X) (a:eE):Prop:=(a.2.1-a.1).toNat<=a.2.2.1.length/\∀b,0<=b->b<a.2.2.1.length->rL c a b
theorem af9 {n:X} {x:eE} (o:0<=x.1) (p:x.1<x.2.1) (q:x.2.1<=(n:Z)) (s:n<=200) (r:x.2.2.1.length<4611686018427387904):EQ (x,(n:Z),())=Y ((open Classical in decide (mV n x)),()):=by
 classical
 obtain⟨b,j⟩:∃b:X,x.2.1-x.1=(b:Z):=⟨(x.2.1-x.1).toNat,aa⟩;have t:(x.2.1-x.1).toNat=b:=aa;unfold EQ;simp only[j,He (aa:b<9223372036854775808),c7];by_cases l:b<=x.2.2.1.length
 ·rw[ar aa];refine ai (FN (τ:=bt) x.2.2.1.length (rL n x) () (.inl ()) (.inr (bq,())) 0 bn (eJ _) ?_ ?_) ?_
  ·intro a _ i _;have h:=gJ (cE i);rw[au aa,h];simp only[aI,Io,fQ];by_cases m:a<b
   ·rw[au aa,cu aa aa];simp only[aI];by_cases c:x.2.2.1[a]=x.1+(a:Z)
    ·have:rL n x a:=λ_=>⟨λ_=>c,λg=>by omega⟩;rw[au this,aH c];simp(disch:=omega) only[iG,bP,ar,aI,lJ]
    simp_all [ar,aD,rL]
   rw[ar aa];simp only[aI,bP];rw[au aa];simp only[Da];have k:aw x.2.2.1 (bK.wrap ((a:Z)-1))=Y (x.2.2.1[a-1]'(by omega)):=by grind [gJ,bX,Cn]
   by_cases c:x.2.2.1[a]<x.2.1
   ·grind [rL]
   rw[ar c];by_cases e:x.2.2.1[a]>=(n:Z)
   ·grind [rL]
   rw[ar e,k];simp only[aI];by_cases f:x.2.2.1[a]<=x.2.2.1[a-1]
   ·grind [rL]
   have:rL n x a:=λ_=>⟨λg=>by omega,λ_=>⟨aa,aa,aa⟩⟩;rw[au this,ar f];grind [lJ]
  ·grind
  by_cases d:∀a,0<=a->a<x.2.2.1.length->rL n x a
  ·rw[au d,aH (show mV n x from⟨aa,d⟩)]
  simp_all [ar,aD,mV]
 simp_all [au,aD,mV]
def ir (a:bm eE) (b:Z):ala:=((a[b.toNat]?).map λ(c:eE)=>c.2.2.1).getD []
def oF (c:bm eE) (a:eE):Prop:=
 (a.2.2.1.length=(a.2.1-a.1).toNat/\a.2.2.2.1=-1)\/
 (∃d:(a.2.1-a.1).toNat<a.2.2.1.length,a.2.2.2.1=iN (cJ c) (a.2.2.1[(a.2.1-a.1).toNat]).toNat c.length/\∀b,(a.2.1-a.1).toNat<=b->(e:b<a.2.2.1.length)->a.2.2.1[b]∈ir c a.2.2.2.1)
theorem mV.asc {b:eE} (f:0<=b.1) (g:b.1<b.2.1) (c:mV a b):b.2.2.1.Pairwise (· < ·):=by rw[BR];intro e d;have ax:=c.2 e (eJ _) aa aa;have h:=c.2 (e+1) (eJ _) d d;grind
theorem y1 (b:a<l.length):ir l (a:Z)=l[a].2.2.1:=by grind [alL,bX,ir]
theorem Mo {v:Z} (b:d.length<4611686018427387904) (c:d.Pairwise (· < ·)):∃a,vw (d,v,())=Y (a,br (v∈d),()):=by obtain⟨⟨a,e,⟨⟩⟩,f,g⟩:=Mp d v b c;grind
theorem ZV (V:b<=200) (n:oB b l) (w:∀L∈l,L.2.2.1.length<4611686018427387904) (u:∀a,(r:a<l.length)->mV b l[a]) (h:a<l.length):EP (l,az b (λz=>iN (cJ l) z l.length),l[a],())=Y ((open Classical in decide (oF l l[a])),()):=by
 classical
 have t:=(n.1 a h).at h;have p:=u a h;have D:=w _ (cL h);generalize am:l[a]=c at t p D;obtain⟨N,O,P,Q⟩:=t;obtain⟨d,F⟩:∃d:X,c.2.1-c.1=(d:Z):=⟨(c.2.1-c.1).toNat,aa⟩;have x:(c.2.1-c.1).toNat=d:=aa;have G:=p.1;rw[x] at G;unfold EP;simp(disch:=omega) only[F,He (aa:d<9223372036854775808),wh,aI,vZ,jr,h2,nT,c7,g2,fQ];by_cases R:c.2.2.1.length=d
 ·rw[au aa];have:br (c.2.2.2.1=-1)=br (oF l c):=by
   simp_all [cB,oF]
  grind
 have o:d<c.2.2.1.length:=aa;have ad:=(p.2 d (eJ _) o o).2 aa;obtain⟨j,y⟩:∃j:X,c.2.2.1[d]=(j:Z):=⟨(c.2.2.1[d]).toNat,aa⟩;have K:j<b:=aa;have A:aw (c.2.2.1.drop d) 0=Y (j:Z):=(by grind [gJ]);rw[ar aa];simp(disch:=omega) only[A,aI,sg];obtain⟨f,g,H,I⟩:=C5 n K;have q:iN (cJ l) j l.length=(f:Z):=C6 (m:=l.length) (λa h=>⟨h,n.1 a h⟩) g H I l.length g (bc _);rw[q];have T:oF l c↔c.2.2.2.1=(f:Z)/\∀e,0<=e->e<c.2.2.1.length-d->c.2.2.1.getD (d+e) 0∈l[f].2.2.1:=by
  unfold oF;rw[x];constructor
  ·rintro(r|⟨r,i,k⟩)
   ·omega
   rw[y,fP,q] at i;grind [bX,y1]
  rintro⟨i,k⟩;refine .inr ⟨o,by rw[y,fP,q,i],λe s S=>?_⟩;rw[i,y1 g];have:=k (e-d) (eJ _) aa;grind
 by_cases s:c.2.2.2.1=(f:Z)
 ·simp only[s,amb,iG,bP];have B:l[f].2.2.1.Pairwise (· < ·):=by
   have:=(n.1 f g).at g;exact(u f g).asc aa aa
  have J:=w _ (cL g);refine ai (FN (τ:=bt) (c.2.2.1.length-d) (λe=>c.2.2.1.getD (d+e) 0∈l[f].2.2.1) () (.inl ()) (.inr (bq,())) 0 bn (eJ _) ?_ ?_) ?_
  ·intro e _ U _;have i:aw (c.2.2.1.drop d) (e:Z)=Y (c.2.2.1.getD (d+e) 0):=by
    grind [bX,gJ]
   have k:aw l (f:Z)=Y l[f]:=gJ (cE g);obtain⟨M,C⟩:=Mo (v:=c.2.2.1.getD (d+e) 0) J B;rw[au aa,i,k];simp only[aI,C];by_cases E:c.2.2.1.getD (d+e) 0∈l[f].2.2.1
   ·simp(disch:=omega) only[E,amb,iG,bP,ck,lJ]
   grind
  ·grind
  grind
 grind
section
theorem WY {l:bm eE} (B:a<=200) (F:l.length<4611686018427387904) (e:oB a l) (D:∀i∈l,i.2.2.1.length<4611686018427387904):D2 (l,(Y (a:Z),()),())=Y ((open Classical in decide (¬∀b,(d:b<l.length)->mV a l[b])),()):=by
 classical
 rw[<-bO];unfold D2;refine bG (P:=λh=>0<=h.1↔¬∀b,(d:b<l.length)->mV a l[b]) ?_ ?_
 ·unfold IE;refine bG (Kc l.length (λb=>∀d:b<l.length,mV a l[b]) ?_ ?_) ?_
  ·intro b c;have f:=gJ (cE c);obtain⟨j,k,m,o⟩:=(e.1 b c).at c;have g:=af9 (n:=a) (x:=l[b]) aa aa aa B (D _ (cL c));simp(disch:=omega) only[c7,au,f,aI,IT,g];by_cases d:mV a l[b]
   ·simp(disch:=omega) only[d,amb,iG,bP,c,apC,ck,lJ]
   grind
  ·grind
  grind [bv]
 grind [bv,ge_iff_le]
theorem WZ {l:bm eE} (B:a<=200) (F:l.length<4611686018427387904) (e:oB a l) (D:∀k∈l,k.2.2.1.length<4611686018427387904) (f:∀b,(c:b<l.length)->mV a l[b]):D3 (l,(Y l,Y (az a (λj=>iN (cJ l) j l.length)),()),())=Y ((open Classical in decide (¬∀b,(c:b<l.length)->oF l l[b])),()):=by
 classical
 rw[<-bO];unfold D3;refine bG (P:=λi=>0<=i.1↔¬∀b,(c:b<l.length)->oF l l[b]) ?_ ?_
 ·unfold IF;refine bG (Kc l.length (λb=>∀c:b<l.length,oF l l[b]) ?_ ?_) ?_
  ·intro b d;have g:=gJ (cE d);have h:=ZV B e D f d;simp(disch:=omega) only[c7,au,g,aI,IU,h];by_cases c:oF l l[b]
   ·simp(disch:=omega) only[c,amb,iG,bP,d,apC,ck,lJ]
   grind
  ·grind
  grind [bv]
 grind [bv,ge_iff_le]
def UL (A:eu) (l:bm eE) (b a:X):Prop:=b<a->(a:Z)∈ir l (iN (cJ l) b l.length)
def iw (A:eu) (l:bm eE):Prop:=oB A.length l/\(∀a,(d:a<l.length)->mV A.length l[a])/\(∀a,(d:a<l.length)->oF l l[a])/\∀c b,kl A c b->UL A l c b
def Fc (A:eu) (l:bm eE):Z:=if jh A≠0 then jh A else(open Classical in if iw A l then 0 else 211)
section
variable {A:eu} (C:fA A) (B:A.length<=200) {l:bm eE} (F:l.length<4611686018427387904) (D:∀y∈l,y.2.2.1.length<4611686018427387904)
include C B F D
theorem X8:vD ((A,()),l,())=Y ((open Classical in if iw A l then 0 else 211),()):=by
 classical
 have I:=C.hc B;unfold vD;simp only[Hh A I,ve.2 ⟨B,C⟩,aI,fQ,amb,iG,bP];obtain⟨⟨ap,T,⟨⟩⟩,z,t,u⟩:=WS l B F;simp only at t u;simp only[z,aI,Da];by_cases f:oB A.length l
 ·have w:=t.2 f;have O:=u f;subst w O;simp only[iG,show(bq==bq)=bp from rfl,bF,WY B F f D,aI];by_cases j:∀b,(d:b<l.length)->mV A.length l[b]
  ·simp only[j,apD,ane,decide_false,bP,aI,WZ B F f D j];by_cases q:∀b,(d:b<l.length)->oF l l[b]
   ·simp only[q,apD,ane,decide_false,bP];have V:iw A l↔∀a,0<=a->a<A.length->∀d:a<A.length,∀b,0<=b->b<A[a].length->∀c:b<A[a].length,A[a][b]<=(a:Z)->(a:Z)∈ir l (iN (cJ l) A[a][b].toNat l.length):=by
     constructor
     ·rintro⟨_,_,_,E⟩ a _ _ d b _ _ c M;have R:=(C.asc a d).2 _ (cL c);obtain⟨e,n⟩:∃e:X,A[a][b]=(e:Z):=⟨A[a][b].toNat,aa⟩;have o:kl A a e:=⟨d,n▸cL c⟩;have am:=o.ne C;rw[n,fP];exact E e a (apE C _ _ o) aa
     intro d;refine⟨f,j,q,λe a o ad=>?_⟩;have S:=apE C _ _ o;obtain⟨b,c,s⟩:=g8.1 S.2;grind
    rw[show(if iw A l then(0:Z) else 211)=if(∀a,0<=a->a<A.length->∀d:a<A.length,∀b,0<=b->b<A[a].length->∀c:b<A[a].length,A[a][b]<=(a:Z)->(a:Z)∈ir l (iN (cJ l) A[a][b].toNat l.length)) then 0 else 211 from by grind];refine ai (FN (τ:=ala×bt) A.length (λa=>∀d:a<A.length,∀b,0<=b->b<A[a].length->∀c:b<A[a].length,A[a][b]<=(a:Z)->(a:Z)∈ir l (iN (cJ l) A[a][b].toNat l.length)) (az A.length (λi=>iN (cJ l) i l.length),()) (.inl ()) (.inr (211,())) 0 bn (eJ _) ?_ ?_) ?_
    ·intro a _ k _;have J:=gJ (cE k);have an:=C.rows _ (cL k);simp(disch:=omega) only[c7,au,J,aI];refine ai (FN (τ:=ala×bt) A[a].length (λb=>∀c:b<A[a].length,A[a][b]<=(a:Z)->(a:Z)∈ir l (iN (cJ l) A[a][b].toNat l.length)) (az A.length (λi=>iN (cJ l) i l.length),()) (.inl (az A.length (λi=>iN (cJ l) i l.length),())) (.inr (.inr (.inr (211,())))) 0 bn (eJ _) ?_ ?_) ?_
     ·intro b _ c _;have K:=gJ (cE c);have R:=(C.asc a k).2 _ (cL c);obtain⟨e,n⟩:∃e:X,A[a][b]=(e:Z):=⟨A[a][b].toNat,aa⟩;simp(disch:=omega) only[au,K,aI,n,c,apC,fP];by_cases r:(e:Z)>(a:Z)
      ·have:(e:Z)<=(a:Z)->(a:Z)∈ir l (iN (cJ l) e l.length):=λd=>aa;rw[au r,au this];grind [lJ]
      obtain⟨h,g,P,Q⟩:=C5 f (aa:e<A.length);have L:iN (cJ l) e l.length=(h:Z):=C6 (m:=l.length) (λb c=>⟨c,f.1 b c⟩) g P Q l.length g (bc _);have y:aw l (h:Z)=Y l[h]:=gJ (cE g);have G:l[h].2.2.1.Pairwise (· < ·):=(by have:=(f.1 h g).at g;exact(j h g).asc aa aa);obtain⟨U,H⟩:=Mo (v:=(a:Z)) (D _ (cL g)) G;rw[ar r];simp(disch:=omega) only[sg,aI,L,y,H,y1 g];have M:(e:Z)<=(a:Z):=aa;by_cases N:(a:Z)∈l[h].2.2.1
      ·simp(disch:=omega) only[N,amb,iG,bP,aI,apD,ck,lJ]
      grind
     ·grind
     have s:(∀d:a<A.length,∀b,0<=b->b<A[a].length->∀c:b<A[a].length,A[a][b]<=(a:Z)->(a:Z)∈ir l (iN (cJ l) A[a][b].toNat l.length))↔(∀b,0<=b->b<A[a].length->∀c:b<A[a].length,A[a][b]<=(a:Z)->(a:Z)∈ir l (iN (cJ l) A[a][b].toNat l.length)):=⟨λp=>p k,λp _=>p⟩;by_cases x:∀b,0<=b->b<A[a].length->∀c:b<A[a].length,A[a][b]<=(a:Z)->(a:Z)∈ir l (iN (cJ l) A[a][b].toNat l.length)
     ·simp(disch:=omega) only[au x,au (s.2 x),lJ]
     grind
    ·grind
    grind
   have:¬iw A l:=λd=>q d.2.2.1;grind
  have:¬iw A l:=λd=>j d.2.1;grind
 have w:T=bq:=(by grind);have:¬iw A l:=λd=>f d.1;grind
end
section
variable {A:eu} (C:fA A) (B:A.length<=200) {l:bm eE} (F:l.length<4611686018427387904) (D:∀y∈l,y.2.2.1.length<4611686018427387904)
include C B F D
end
theorem UT {A:eu} (c:∀l∈A,l.length<4611686018427387904) {l:bm eE} (F:l.length<4611686018427387904) (D:∀b∈l,b.2.2.1.length<4611686018427387904):vD ((A,()),l,())=Y (Fc A l,()):=by
 unfold Fc;by_cases a:jh A=0
 ·obtain⟨B,C⟩:=ve.1 a;rw[ar aa];grind [X8]
 simp_all [au,Hh,aI,fQ,aD,oA,bF,vD]
end
section
def cZ (a:ak9):ala:=a.map λ(b:X)=>(b:Z)
theorem wg (a b:ak9):cZ (a++b)=cZ a++cZ b:=by simp[cZ]
theorem jG (a:ak9):(cZ a).length=a.length:=by simp[cZ]
section
variable {n:X} {f:X->Z} (A:Hw n f) (B:n<=200)
include A B
end
end
section
theorem yn {b:bm k} (d:a<b.length) (c:k):b.getD a c=b[a]:=by simp only[amk,cE d,sZ]
section
variable {A:eu} (B:fA A) (C:A.length<=200)
include B C
end
end
section
theorem N8 {A:eu} (B:fA A) (d:c∈he A a):∃b:X,c=(b:Z)/\b<A.length/\a<=b:=by have e:=d;unfold he vh at d;grind
section
variable {A:eu} (B:fA A) (C:A.length<=200)
include B C
section
variable {D:ala} {m:X} {s e:X->X} (F:UJ A.length (R4 A)) (G:MI A.length (R4 A) D m s e)
include F G
end
def w4 (a:bm eE) (c b:X):Prop:=b<a.length/\cJ a b<=c/\c<cJ a (b+1)
omit B C in
theorem w4.last (e:oB g l) (c:w4 l b a):iN (cJ l) b l.length=(a:Z):=
 C6 (m:=l.length) (λf d=>⟨d,e.1 f d⟩) c.1 c.2.1 c.2.2 l.length c.1 (bc _)
end
end
def iw.parent (q:iw s l) (f:a<l.length):(l[a].2.2.2.1=-1\/∃c:X,l[a].2.2.2.1=(c:Z)/\c<l.length)/\∀b,(d:b<l[a].2.2.1.length)->l[a].2.1<=l[a].2.2.1[b]->∃c:X,l[a].2.2.2.1=(c:Z)/\c<l.length/\l[a].2.2.1[b]∈ir l (c:Z):=by
 obtain⟨j,r,p,_⟩:=q;obtain⟨z,A,B,C⟩:=(j.1 a f).at f;have k:=r a f;rcases p a f with⟨h,e⟩|⟨h,e,o⟩
 ·refine⟨.inl e,λb d v=>?_⟩;have:=(k.2 b (eJ _) d d).1 aa;omega
 have y:=(k.2 _ (eJ _) h h).2 (bc _);obtain⟨g,n⟩:∃g:X,l[a].2.2.1[(l[a].2.1-l[a].1).toNat]=(g:Z):=⟨(l[a].2.2.1[(l[a].2.1-l[a].1).toNat]).toNat,aa⟩;rw[n] at y;obtain⟨c,m,w,x⟩:=C5 j (aa:g<s.length);have u:=w4.last j (⟨m,w,x⟩:w4 l g c);rw[n,fP,u] at e;refine⟨.inr ⟨c,e,m⟩,λb d v=>?_⟩;refine⟨c,e,m,?_⟩;have t:(l[a].2.1-l[a].1).toNat<=b:=by
  rcases cU b (l[a].2.1-l[a].1).toNat with i|i
  ·have:=(k.2 b (eJ _) d d).1 i;omega
  exact i
 have:=o b t d;rw[e] at this;exact this
structure pw {α:Type} (lt:α->α->bz):Prop where
 V5:∀a b,lt a b=bp->lt b a=bq
 trans:∀a b c,lt b a=bq->lt c b=bq->lt c a=bq
theorem pw.int:pw (λa b:Z=>br (a<b)):=⟨λa b d=>by grind,λa b c e f=>by grind⟩
def uN {b:Type} (g:b->b->bz) (c:X->b) (e f:X):Prop:=∀d a,d<a->a<=e->a≠f->g (c a) (c d)=bq
def px {b:Type} (f:b->b->bz) (c:X->b) (e:X):Prop:=∀d a,d<a->a<e->f (c a) (c d)=bq
def swp {c:Type} (b:X->c) (a:X):X->c:=eG (eG b a (b (a-1))) (a-1) (b a)
def TU (b:X->k) (c:X):swp b a c=if c=a-1 then b a else if c=a then b (a-1) else b c:=rfl
def uN.swp {k:Type} {h:k->k->bz} (m:pw h) {f:X->k} {j a:X} (g:uN h f j a) (q:0<a) (r:a<=j) (n:h (f a) (f (a-1))=bp):uN h (swp f a) j (a-1):=by
 intro e b p i o;rw[TU,TU,ar o];by_cases c:b=a
 ·subst c;rw[au bn];by_cases d:e=b-1
  ·rw[au d];exact m.V5 _ _ n
  rw[ar d,ar aa];exact g e (b-1) aa aa aa
 rw[ar c];by_cases d:e=a-1
 ·rw[au d];exact g a b aa i c
 rw[ar d];by_cases l:e=a
 ·rw[au l];exact g (a-1) b aa i c
 rw[ar l];exact g e b p i c
theorem uN.done {h:Type} {d:h->h->bz} (k:pw d) {b:X->h} {f a:X} (j:uN d b f a) (n:a<=f) (c:a=0\/d (b a) (b (a-1))=bq):px d b (f+1):=by
 intro g e l o;by_cases i:e=a
 ·subst i;rcases c with c|c
  ·omega
  by_cases m:g=e-1
  ·grind
  exact k.trans _ _ _ (j g (e-1) aa aa aa) c
 exact j g e l aa i
theorem TV {c:X->k} (f:0<a) (g:a<b):(az b (swp c a)).Perm (az b c):=by have d:a<(az b c).length:=(by grind [cI]);have e:a-1<(az b c).length:=aa;have:=List.set_set_perm d e;rw[k1,k1,ho,ho] at this;exact this
theorem Fa [Inhabited k] (a:bm k):a=az a.length (λb=>a[b]?.getD default):=X4 a _ (λb c=>by grind)
theorem Zd (b:ala) (C:b.length<=1000):ae (Ea (b,0,(b.length:Z),())) (λd=>∃a,d.1=az b.length a/\px (λf g=>br (f<g)) a b.length/\d.1.Perm b):=by
 unfold Ea;simp only[];generalize t:b.length=c at*;have u:bK.wrap (0+1)=((1:X):Z):=(by grind [cu]);rw[u];rcases oK c with z|w
 ·subst z;refine bG (P:=λd=>d.1=b) ?_ ?_
  ·refine alv (λj=>j=(((1:X):Z),b,())) (λ_=>0) rfl ?_;rintro _ rfl;simp only[c7];rw[ar aa];grind [bv]
  rintro⟨d,_⟩ rfl;refine bv.2 ⟨λ_=>0,?_,λm n o p=>by omega,anf _⟩;show d=[];grind
 refine bG (P:=λd=>∃a,d.1=az c a/\px (λf g=>br (f<g)) a c/\d.1.Perm b) ?_ (λd y=>bv.2 y);refine ae.for c (λh A=>∃a,A=(az c a,())/\px (λf g=>br (f<g)) a h/\(az c a).Perm b) rfl ⟨λh=>b[h]?.getD default,?_,λm n o p=>by omega,?_⟩ w ?_ ?_
 ·rw[<-t,<-Fa]
 ·rw[<-t,<-Fa]
 ·rintro h _ o p ⟨a,rfl,q,i⟩;simp only[c7];rw[au aa];refine bG (P:=λd=>∃a,d=(az c a,())/\px (λf g=>br (f<g)) a (h+1)/\(az c a).Perm b) ?_ ?_
  ·refine alv (λj=>∃(e:X) (a:X->Z),j=((e:Z),az c a,())/\e<=h/\uN (λf g=>br (f<g)) a h e/\(az c a).Perm b) (λj=>j.1.toNat) ⟨h,a,bn,bc _,λm n x E D=>q m n x aa,i⟩ ?_;rintro _ ⟨e,a,rfl,l,k,i⟩;simp only[Io];by_cases r:0<e
   ·have B:e-1<c:=aa;have v:e<c:=aa;simp(disch:=omega) only[au,cI,Cn,e9,gT,aI,MD,c7];by_cases s:a e<a (e-1)
    ·rw[au s];simp(disch:=omega) only[aI,cI,Cn,e9,gT,ho];refine bv.2 ⟨⟨e-1,swp a e,bn,aa,k.swp pw.int r l (by grind),(TV r v).trans i⟩,?_⟩;omega
    rw[ar s];exact bv.2 ⟨a,bn,k.done pw.int l (.inr (by grind)),i⟩
   rw[ar aa];exact bv.2 ⟨a,bn,k.done pw.int l (.inl aa),i⟩
  grind [lJ,bv]
 rintro _ ⟨a,rfl,q,i⟩;simp only[c7];rw[ar aa];grind [bv]
theorem px.pairwise {b:X->Z} (e:px (λc d=>br (c<d)) b a):(az a b).Pairwise (· <= ·):=by rw[iz];intro g h i j f;rw[k1,k1];have:=e g h f (by grind [cI]);grind
theorem MC (a:X) (c:a<=12):∃b,DT ((a:Z),())=Y (b,()):=by
 have:a=0\/a=1\/a=2\/a=3\/a=4\/a=5\/a=6\/a=7\/a=8\/a=9\/a=10\/a=11\/a=12:=aa;rcases this with rfl|rfl|rfl|rfl|rfl|rfl|rfl|rfl|rfl|rfl|rfl|rfl|rfl
 ·exact⟨0,by kernel_rfl⟩
 ·exact⟨1,by kernel_rfl⟩
 ·exact⟨2,by kernel_rfl⟩
 ·exact⟨2,by kernel_rfl⟩
 ·exact⟨3,by kernel_rfl⟩
 ·exact⟨3,by kernel_rfl⟩
 ·exact⟨3,by kernel_rfl⟩
 ·exact⟨3,by kernel_rfl⟩
 ·exact⟨4,by kernel_rfl⟩
 ·exact⟨4,by kernel_rfl⟩
 ·exact⟨4,by kernel_rfl⟩
 ·exact⟨4,by kernel_rfl⟩
 exact⟨4,by kernel_rfl⟩
theorem aeb (a:ala) (c:Z) (h:a.length<=12):ae (Ed (a,0,(a.length:Z),c,())) (λb=>b.1.Pairwise (· <= ·)/\b.1.Perm a):=by obtain⟨b,i,g,f,e,d⟩:=Zd a aa;refine⟨b,?_,by rw[f];exact e.pairwise,d⟩;unfold Ed;dsimp only;rw[Qp];dsimp only;have j:bK.wrap ((a.length:Z)-0)=((a.length:X):Z):=(by rw[aop];grind [He]);grind
theorem Vi (a:ala) (c:a.length<=12):ae (AC (a,())) (λb=>b.1.Pairwise (· <= ·)/\b.1.Perm a):=by grind [bG,aeb,bv,MC,Mj,AC]
section
open Go
theorem WW (h:d.Pairwise (· <= ·)):(al5 d).length<d.length↔¬d.Nodup:=by
 have g:(al5 d).length=((bI d.length).filter (aow d.toArray)).length:=(by simp[al5,Lib.compactUpTo]);have e:(∀a,a<d.length->aow d.toArray a=bp)↔d.Nodup:=by
  have f:∀a,(b:a<d.length)->(aow d.toArray a=bp↔a=0\/d[a]≠d[a-1]):=λa b=>(by grind [aow]);constructor
  ·intro b;have c:d.Pairwise (· < ·):=by
    grind [cA,BR]
   exact c.imp (λb=>by omega)
  grind [ang]
 grind [cn,aox,List.length_filter_eq_length_iff,amN,alF]
def ag0 (a:ala) (e:a.length<=12):Du (a,())=Y (br (¬a.Nodup),()):=by obtain⟨c,g,h,b⟩:=Vi a e;have f:=b.length_eq;unfold Du Ch;simp only[g,jr,aI];rw[show b2 a.length 1000000=bp from aqL aa];simp only[bF];rw[show b2 c.1.length 1000000=bp from aqL aa];simp only[bF,jr];have d:br ((al5 c.1).length<a.length)=br (¬a.Nodup):=(by rw[cB,<-f,WW h,b.nodup_iff]);rw[d]
def iB (a:X) (b:X->X->bz):es:=az a λc=>az a (b c)
theorem Bv (a:X) (b:X->X->bz):(iB a b).length=a:=cI a _
def Qx (d:∀b c,b<a->c<a->h b c=t b c):iB a h=iB a t:=df λb e=>df λc f=>d b c e f
theorem MF (a:X) (e:a<=4294967296):Aj ((a:Z),())=Y (iB a λ_ _=>bq,()):=by
 unfold Aj;simp only[];rw[im e];simp only[aI];refine ai (y:=(iB a λ_ _=>bq,())) (Br a (λd=>(az a (λb=>if b<d then bJ a bq else[]),())) 0 bn ?_ (eJ _) ?_ ?_) rfl
 ·rw[jk];simp
 ·intro d _ f;simp(disch:=omega) only[cI,sW,c7,au,aI,e9,gT,ho,lJ];congr 4;refine df λb c=>?_;simp only[eG];grind
 simp only[sW,c7];rw[ar aa];congr 2;refine b3 (·,()) (df λb c=>?_);rw[au c,jk]
theorem MB {n:X} {B:X->X->bz} {i j:X} (k:i<n) (l:j<n):Am (iB n B,(i:Z),(j:Z),())=Y (iB n (λa b=>B a b||(br (i≠j)&&((br (a=i)&&br (b=j))||(br (a=j)&&br (b=i))))),()):=by
 unfold Am;simp only[fQ];by_cases e:i=j
 ·simp_all
 rw[aD (aa:¬((i:Z)=(j:Z)))];unfold iB;simp(disch:=omega) only[oA,bF,cI,e9,aI,gT,jr,ho];rw[show eG (λg=>az n (B g)) i (az n (eG (B i) j bp)) j=az n (B j) from g6 _ _ (λd=>e d.symm)];simp(disch:=omega) only[cI,e9,aI,gT,jr,ho];congr 2;refine df λa h=>?_;simp only[eG];by_cases c:a=j
 ·rw[au c,c];grind [df,eG]
 rw[ar c];by_cases f:a=i
 ·subst f;rw[au bn];grind [df,eG]
 simp_all
theorem U1 (j:b<=4294967296) (f:a<b):Dr (iB b h,(a:Z),())=Y (cZ ((bI b).filter (h a)),()):=by
 unfold Dr;simp only[];rw[show aw (iB b h) (a:Z)=Y (az b (h a)) from sg f];simp only[aI];refine ai (y:=(cZ ((bI b).filter (h a)),())) (Br b (λc=>(cZ ((bI c).filter (h a)),())) 0 bn rfl (eJ _) ?_ ?_) rfl
 ·intro c _ g;have i:(cZ ((bI c).filter (h a))).length<=c:=(by grind [alF,jG]);have e:cZ ((bI (c+1)).filter (h a))=if h a c=bp then cZ ((bI c).filter (h a))++[(c:Z)] else cZ ((bI c).filter (h a)):=by
   grind [alG,wg,cZ]
  simp(disch:=omega) only[cI,c7,au,sg,aI,lJ];rw[e];by_cases d:h a c=bp
  ·rw[au d,d,e3 (by grind)];rfl
  grind
 simp_all [cI,c7,ar]
def kq (a:X) (b:X->X->bz):eu:=az a λc=>cZ ((bI a).filter (b c))
theorem My (e:a<=4294967296):Al (iB a h,())=Y ((kq a h,()),()):=by
 unfold Al;simp only[Bv];rw[im e];simp only[aI];refine ai (y:=(([],()),(kq a h,()),())) (Br a (λd=>(([],()),(az a (λb=>if b<d then cZ ((bI a).filter (h b)) else[]),()),())) 0 bn ?_ (eJ _) ?_ ?_) rfl
 ·rw[jk];simp
 ·intro d _ f;simp(disch:=omega) only[c7,au,U1,aI,cI,e9,gT,jr,ho,lJ];congr 6;refine df λb c=>?_;simp only[eG];grind
 simp only[c7];rw[ar aa];have:(az a λb=>if b<a then cZ ((bI a).filter (h b)) else[])=kq a h:=df λb c=>(by rw[au c]);grind
end
section
open Go
def ff (a:ala) (b:X):Prop:=a.length=b/\(∀c∈a,0<=c/\c<(b:Z))/\a.Nodup
open Classical in
theorem U8 (a:ala) (c:X) (s:c<=4294967296):Ej (a,(c:Z),())=Y (br (ff a c),()):=by
 unfold Ej;simp only[fQ];by_cases m:a.length=c
 ·rw[aH (aa:(((a.length:X):Z)=(c:Z)))];simp only[iG,bP,im s,aI,jk];rw[<-bO];refine bG (P:=λu=>match u with|.inl _=>ff a c|.inr v=>v=(bq,())/\¬ff a c) ?_ ?_
  ·refine ae.for c (λb w=>w=(az c (λp=>br ((p:Z)∈a.take b)),())/\(∀e,(d:e<a.length)->e<b->0<=a[e]/\a[e]<(c:Z))/\(a.take b).Nodup) (i0:=0) rfl ⟨ac,λe _ d=>by omega,ac⟩ (eJ _) ?_ ?_
   ·rintro b _ _ x ⟨rfl,t,q⟩;have l:b<a.length:=aa;have k:aw a (b:Z)=Y a[b]:=gJ (cE l);have o:a[b]∈a:=cL l;simp(disch:=omega) only[c7,au,k,aI,Da];by_cases i:a[b]<0
    ·rw[au i];exact bv.2 ⟨bn,λd=>by have:=d.2.1 _ o;omega⟩
    rw[ar i];by_cases j:a[b]>=(c:Z)
    ·rw[au j];exact bv.2 ⟨bn,λd=>by have:=d.2.1 _ o;omega⟩
    rw[ar j];obtain⟨f,h⟩:∃f:X,a[b]=(f:Z):=⟨a[b].toNat,aa⟩;have B:f<c:=aa;rw[h];simp(disch:=omega) only[cI,e9,aI,gT,c7];by_cases g:(f:Z)∈a.take b
    ·rw[au g];refine bv.2 ⟨bn,λd=>?_⟩;obtain⟨D,r,n⟩:=g8.1 g;simp only[gu] at r;simp only[List.getElem_take] at n;have:=(qq d.2.2).1 (n.trans h.symm);omega
    rw[ar g];simp(disch:=omega) only[aI,k,h,cI,e9,gT,ho,lJ];have A:a.take (b+1)=a.take b++[(f:Z)]:=(by grind [uD]);refine bv.2 ⟨bn,?_,λe y z=>?_,?_⟩
    ·show((_,()):_×bt)=_;refine b3 (·,()) (df λp _=>?_);simp only[eG];grind
    ·grind
    grind
   rintro _ ⟨rfl,t,q⟩;simp(disch:=omega) only[c7,ar];refine bv.2 ⟨m,λE C=>?_,?_⟩
   ·grind [al7]
   grind
  grind [bv,aH,aD]
 rw[aD (aa:¬(((a.length:X):Z)=(c:Z)))];simp only[oA,bF];rw[aD (λd=>m d.1)]
def nb (a:eu) (b:ala):Z:=open Classical in if jh a≠0 then jh a else if b.length≠a.length then 2 else if ff b a.length then 0 else 90
theorem Lt (d:∀h∈s,h.length<4611686018427387904) (a:ala):tB ((s,()),a,())=Y (if nb s a=0 then((kc (ks s a),()),0,()) else(([],()),nb s a,())):=by
 classical
 unfold tB nb;simp only[Ls s d,aI,fQ];by_cases c:jh s=0
 ·obtain⟨g,e⟩:=ve.1 c;rw[aH c];simp only[iG,bP,c,ne_eq,ane,alV];by_cases f:a.length=s.length
  ·rw[aH (aa:(((a.length:X):Z)=((s.length:X):Z)))];simp only[iG,bP,f,ane,alV];rw[U8 a s.length aa];simp only[aI];by_cases b:ff a s.length
   ·rw[aH b];simp only[iG,bP,au b,ck];rw[UY e d g b.2.1 b.2.2 aa];rfl
   grind
  grind
 grind
theorem ahx (b:eu) (a:Z):Dv ((b,()),a,())=Y (br (0<=a/\a<(b.length:Z)),()):=by unfold Dv;grind
theorem adZ (d:eu) (a:ala) (j:a.length<4611686018427387904):D5 (a,(Y (d,()),()),())=Y (br (¬∀c∈a,0<=c/\c<(d.length:Z)),()):=by
 classical
 unfold D5 IG;simp only[];rw[<-bO];have i:(∀c∈a,0<=c/\c<(d.length:Z))↔∀b,b<a.length->∀e:b<a.length,0<=a[b]/\a[b]<(d.length:Z):=
  ⟨λe b _ f=>e _ (cL f),λe c k=>by grind [al7]⟩
 refine bG (P:=λg=>br (g.1>=0)=br (¬∀c∈a,0<=c/\c<(d.length:Z))) ?_ (λg h=>bv.2 (by rw[h]));refine bG (Kc a.length (λb=>∀e:b<a.length,0<=a[b]/\a[b]<(d.length:Z)) ?_ ?_) ?_
 ·intro b f;simp(disch:=omega) only[c7,au,gJ (cE f),aI,lJ];unfold It;simp only[aI,ahx];grind
 ·grind
 grind [bv,aD,aH]
theorem U9 (i:∀m∈s,m.length<4611686018427387904) (a:ala) (k:s.length<=200->fA s->s.length<=12) (l:a.length<4611686018427387904):Dq ((s,()),a,())=Y (nb s a,()):=by
 classical
 unfold Dq nb;simp only[Hh s i,aI,fQ];by_cases e:jh s=0
 ·obtain⟨j,h⟩:=ve.1 e;have n:=k j h;rw[aH e];simp only[iG,bP,e,ne_eq,ane,alV];by_cases f:a.length=s.length
  ·rw[aH (aa:(((a.length:X):Z)=((s.length:X):Z)))];simp only[iG,bP,f,ane,alV];rw[adZ s a l];simp only[aI];by_cases b:∀g∈a,0<=g/\g<(s.length:Z)
   ·rw[aD (ale b)];simp only[alJ,bF];rw[ag0 a aa];simp only[aI,c7];by_cases c:a.Nodup
    ·rw[ar (ale c),au ⟨f,b,c⟩]
    rw[au c,ar (λd=>c d.2.2)]
   rw[aH b,ar (λd=>b d.2.1)];rfl
  grind
 grind
end
section
open Go
def qV (c:eu) (a:ala) (b d:X):bz:=br (a.getD d 0∈c.getD (a.getD b 0).toNat [])
theorem PO (k:fA s) (i:∀c∈d,0<=c/\c<(s.length:Z)) (l:a<d.length) (m:b<d.length):qV s d a b=qV s d b a:=by have n:=i _ (cL l);have o:=i _ (cL m);have u:∀c e:Z,0<=c/\c<(s.length:Z)->0<=e/\e<(s.length:Z)->e∈s.getD c.toNat []->c∈s.getD e.toNat []:=λc e r t h=>(by obtain⟨f,rfl⟩:∃f:X,c=(f:Z):=⟨c.toNat,aa⟩;obtain⟨g,rfl⟩:∃g:X,e=(g:Z):=⟨e.toNat,aa⟩;simp only[fP] at h|-;have j:f<s.length:=aa;have q:g<s.length:=aa;rw[yn j] at h;obtain⟨_,p⟩:=apE k f g ⟨j,h⟩;grind);unfold qV;grind
theorem YC (f:fA s) (g:∀e∈d,0<=e/\e<(s.length:Z)):kq d.length (λa b=>br (a≠b)&&qV s d a b)=kc (ks s d):=by unfold kq kc;rw[yp];refine iU λi c=>?_;have c:=fN.1 c;unfold cZ m8;refine b3 _ (qo λj h=>?_);grind [Bool.or_self,PO,H5,qV]
theorem Y5 (r:fA s) (t:∀d∈s,d.length<4611686018427387904) (x:∀o∈d,0<=o/\o<(s.length:Z)) (G:d.length<=400):Dt ((s,()),d,())=Y ((kc (ks s d),()),()):=by
 generalize m:d.length=c at*
 let h:X->X->X->X->bz:=λa b e f=>br (e≠f)&&(qV s d e f&&((br (e<a)&&br (f<a))||((br (e=a)&&br (f<b))||(br (f=a)&&br (e<b)))))
 unfold Dt;simp only[m];rw[MF c aa];simp only[aI];refine ai (y:=(([],()),iB c (h c 0),())) (Br c (λa=>(([],()),iB c (h a 0),())) 0 bn ?_ (eJ _) ?_ ?_) ?_
 ·grind
 ·intro a _ w;have l:a<d.length:=aa;have u:aw d (a:Z)=Y d[a]:=gJ (cE l);have k:=x _ (cL l);obtain⟨g,n⟩:∃g:X,d[a]=(g:Z):=⟨d[a].toNat,aa⟩;have i:g<s.length:=aa;simp(disch:=omega) only[c7,au,u,aI,wh,m,vZ,jr,n,np];have z:(d.take a).length=a:=(by grind);refine ai (y:=(([],()),iB c (h a a),())) (Br a (λb=>(([],()),iB c (h a b),())) 0 bn rfl (eJ _) ?_ ?_) ?_
  ·intro b _ E;have F:b<d.length:=aa;have v:aw (d.take a) (b:Z)=Y d[b]:=gJ (by grind);simp(disch:=omega) only[z,c7,au,v,aI,lJ];rw[JM s g d[b] i (t _ (cL i)) ((HL s).1 r g i).1];simp only[aI,c7];have p:qV s d a b=br (d[b]∈s[g]):=by
    grind [yn,alL,qV]
   have q:qV s d b a=br (d[b]∈s[g]):=(by grind [PO]);by_cases j:d[b]∈s[g]
   ·rw[au j,MB w aa];simp only[aI];refine b3 (λA=>Y (Sum.inl (((b+1:X):Z),([],()),A,()))) (Qx λe f _ _=>?_);rw[aH j] at p q;simp only[h];rw[wZ];simp only[jK,cF,alB];constructor
    ·rintro(⟨k,C,D⟩|⟨k,⟨rfl,rfl⟩|⟨rfl,rfl⟩⟩)
     ·grind
     ·grind
     grind
    grind
   grind
  ·grind
  simp(disch:=omega) only[lJ];grind
 ·grind
 rw[My aa];simp only[aI];have B:kq c (h c 0)=kq c (λe f=>br (e≠f)&&qV s d e f):=(by refine df λg n=>b3 cZ (qo λI H=>?_);grind);grind [YC]
theorem Ve (c:∀j∈s,j.length<4611686018427387904) (a:ala) (g:s.length<=200->fA s->s.length<=12) (h:a.length<4611686018427387904):Ak ((s,()),a,())=Y (if nb s a=0 then((kc (ks s a),()),0,()) else(([],()),nb s a,())):=by
 classical
 unfold Ak;simp only[U9 c a g h,aI,fQ];by_cases b:nb s a=0
 ·rw[aH b,au b];simp only[iG,bP];have e:jh s=0:=by
   by_cases i:jh s=0
   ·exact i
   simp_all [au,nb,absurd]
  obtain⟨k,f⟩:=ve.1 e;have d:ff a s.length:=(by unfold nb at b;grind);rw[Y5 f c d.2.1 (by have:=d.1;omega)];rfl
 grind
end
def kf (E:bm cY) (b c:X):bz:=E.any λa=>br (a.1≠a.2.1)&&((br ((b:Z)=a.1)&&br ((c:Z)=a.2.1))||(br ((b:Z)=a.2.1)&&br ((c:Z)=a.1)))
def l8 (E:bm cY) (b c:X):bz:=E.any λa=>br ((b:Z)=a.1)&&br ((c:Z)=a.2.1)
theorem HS {b:k->bz} {E:bm k} (c:a<E.length):(E.take (a+1)).any b=((E.take a).any b||b E[a]):=by grind [ali,bX]
theorem aab (a:X) (b:X->X->bz) (e:∀c d,b c d=bq):(bJ a (bJ a bq))=iB a b:=by grind [df,jk,iB]
theorem Wa (c:b<a) (d:g<a):hK (iB a h) b g=h b g:=by grind [gV,az,hK,iB]
theorem Pl (d:X) (b:X->X->bz):kc (iB d b)=kq d λa c=>a !=c&&(b a c||b c a):=by unfold kc;rw[Bv];refine df λa e=>?_;grind [Wa,List.filter_congr,m8,cZ]
theorem PT {E:bm cY} (a b:X):(a !=b&&(l8 E a b||l8 E b a))=kf E a b:=by
 induction E with
 |nil=>simp[l8,kf]
 |cons h E g=>
  unfold l8 kf at*;simp only[List.any_cons];rw[<-g,wZ];simp only[cF,jK,bne_iff_ne,alB];constructor
  ·rintro⟨f,(⟨d,e⟩|c)|(⟨d,e⟩|c)⟩
   ·omega
   ·grind
   ·omega
   grind
  rintro(⟨f,⟨d,e⟩|⟨d,e⟩⟩|⟨f,c|c⟩)
  ·omega
  ·omega
  ·grind
  grind
theorem UU (f:iW a a p d q) (m:gI a a p d q=0):Ai (((a:Z),(a:Z),p,d,q,()),())=Y ((kq a (kf (c0 p d q a)),()),0,()):=by
 have k:=(kE.1 m).1;have u:=tG k;have y:(c0 p d q a).length<=10000:=(by rw[A5 k a (cf _)];have:=k.si a (cf _);have:=f.hi;omega);unfold Ai;refine ai f.check ?_;dsimp only;rw[m,fQ,aH bn,fQ,aH bn];have x:=f.hc;refine ai (MF a aa) (ai (UO f m) ?_);dsimp only;generalize c0 p d q a=E at*;refine bO.1 ?_;refine bG (P:=λv=>v=(([],()),iB a (kf E),())) ?_ ?_
 ·refine bR E.length (λb w=>w=((b:Z),([],()),iB a (kf (E.take b)),E,())) rfl ?_ ?_
  ·rintro b _ l rfl;dsimp only;rw[a7 (aH (show(b:Z)<ao E by grind)),iE l,bg aa];have t:=u E[b] (b6 l);obtain⟨c,o⟩:=ald t.1;obtain⟨e,r⟩:=ald t.2.2.1;have s:=MB (n:=a) (B:=kf (E.take b)) (i:=c) (j:=e) aa aa;rw[<-o,<-r] at s;refine bA s (bv.2 ?_);dsimp only;have:iB a (λg h=>kf (E.take b) g h||(br (c≠e)&&((br (g=c)&&br (h=e))||(br (g=e)&&br (h=c)))))=iB a (kf (E.take (b+1))):=by
    refine Qx λz A _ _=>?_;unfold kf;rw[HS l,o,r];grind
   grind
  rintro _ rfl;dsimp only;rw[a2 (aD (show¬((E.length:Z)<ao E) by grind)),ch (cf _)];grind [bv]
 grind [bA,My,bv]
theorem aeP (f:iW a a p d q) (j:gI a a p d q=0):vC (((a:Z),(a:Z),p,d,q,()),())=Y ((kq a (kf (c0 p d q a)),()),0,()):=by
 have h:=(kE.1 j).1;have o:=tG h;have y:(c0 p d q a).length<=10000:=(by rw[A5 h a (cf _)];have:=h.si a (cf _);have:=f.hi;omega);unfold vC;refine ai f.yX ?_;dsimp only;rw[j,fQ,aH bn,fQ,aH bn];have x:=f.hc;refine ai (ON a aa) (ai (Sx f j) ?_);dsimp only;generalize c0 p d q a=E at*;refine bO.1 ?_;refine bG (P:=λv=>v=(([],()),iB a (l8 E),())) ?_ ?_
 ·refine bR E.length (λc w=>w=((c:Z),([],()),iB a (l8 (E.take c)),())) ?_ ?_ ?_
  ·rw[aab a (l8 (E.take 0)) λb g=>rfl];rfl
  ·rintro c _ i rfl;dsimp only;rw[a7 (aH (show(c:Z)<ao E by grind)),bg aa];have n:=o E[c] (b6 i);obtain⟨e,r⟩:=ald n.1;obtain⟨k,s⟩:=ald n.2.2.1;have m:e<a:=aa;have t:k<a:=aa;refine bA (eT i) ?_;rw[r];refine bA (e9 (by grind [Bv])) (bA (eT i) ?_);rw[s];unfold iB;rw[gT m,bN];refine bA (e9 (by grind [cI])) ?_;rw[gT m,gT t,ho,anc,bN,ho];refine bv.2 ?_;have:az a (eG (λb=>az a (l8 (E.take c) b)) e (az a (eG (l8 (E.take c) e) k bp)))=az a λb=>az a (l8 (E.take (c+1)) b):=by
    refine df λb z=>?_;by_cases l:b=e
    ·subst l;grind [g6,aD,gH,HS,df,l8]
    rw[g6 _ _ l];grind [HS,aD,df,l8]
   grind
  rintro _ rfl;dsimp only;rw[a2 (aD (show¬((E.length:Z)<ao E) by grind)),ch (cf _)];grind [bv]
 rintro _ rfl;dsimp only;refine bA (Mx _ (λA u=>?_) (by grind [Bv])) (bv.2 ?_)
 ·rw[Bv];unfold iB az at u;grind
 dsimp only;rw[Pl];have:(λb g=>b !=g&&(l8 E b g||l8 E g b))=kf E:=(by grind [PT]);grind
section
open Go
def R8 (b:d.Perm (cZ (bI a))):ff d a:=by
 refine⟨by rw[b.length_eq,jG,oI],λj e=>?_,?_⟩
 ·obtain⟨k,f,rfl⟩:=eS.1 (b.mem_iff.1 e);have:=fN.1 f;omega
 rw[b.nodup_iff];exact ars _ (λg h c i=>c aa) nV
end
section
open Go
def hY (b:ala) (a:X):X:=(b.getD a 0).toNat
theorem ff.get {n:X} (b:ff d n) (c:a<n):aw d (a:Z)=Y ((hY d a:X):Z)/\hY d a<n:=by have e:a<d.length:=(by rw[b.1];exact c);have f:=b.2.1 _ (cL e);grind [gJ,bX,yn,hY]
theorem ff.inj (c:ff d b) {j:X} (h:j<b) (i:a<b) (e:hY d j=hY d a):j=a:=by have f:j<d.length:=(by rw[c.1];exact h);have g:a<d.length:=(by rw[c.1];exact i);have k:=c.2.1 _ (cL f);have l:=c.2.1 _ (cL g);unfold hY at e;rw[yn f,yn g] at e;exact(qq c.2.2).1 aa
end
section
open Go
theorem aaQ:∀{n:X} {a:ak9},a.Nodup->(∀d∈a,d<n)->a.length<=n:=by
 intro n
 induction n with
 |zero=>intro a _ b;cases a with
  |nil=>grind
  |cons e a=>grind [amE]
 |succ n g=>
  intro a c b;have f:(a.erase n).Nodup:=c.erase n;grind
section
variable {A:eu} (B:fA A)
include B
end
end
section
open Go
def ES (A:eu) (a:Z):X:=(A.getD a.toNat []).length
section
variable {A:eu} (B:fA A) (C:A.length<=200)
include B C
end
end
section
open Go
def Fz (k:Z->Z->ak8) (l:ala) (f j:Z):bu ee:=
 (loop (σ:=dX) (ρ:=ee) (λ(d,g,_)=>
  bif br (d<j) then
 (loop (σ:=dX) (ρ:=ee) (λ(a,c,_)=>
 bB (α:=ee⊕dF) (bif br (a>f)==bp then(be c.length a).bind λv=>
 (a5 c v λo=>Y o).bind λz=>
 (be c.length (bK.wrap (a-(1:Z)))).bind λs=>
 (a5 c s λp=>Y p).bind λA=>
 (k z A).bind λ(y,_)=>
  bif br (y<(0:Z)) then
 Y (.inl (c,())) else
 Y (.inr (.inr (c,()))) else Y (.inr (.inr (c,())))) λw=>match w with
 |.inl (b,_)=>(
 (be b.length (bK.wrap (a-(1:Z)))).bind λt=>
 (a5 b t λq=>Y q).bind λB=>
 (be b.length a).bind λu=>
 (a5 b u λr=>Y r).bind λC=>
 (be b.length a).bind λh=>
 (a5 b h λ_=>Y (b.set h B)).bind λe=>
 (be e.length (bK.wrap (a-(1:Z)))).bind λi=>
 (a5 e i λ_=>Y (e.set i C)).bind λD=>
 Y (.inl (bK.wrap (a-(1:Z)),D,())))
 |.inr x=>Y x) (d,g,())).bind λ(m,_)=>
 Y (.inl (bK.wrap (d+(1:Z)),m,())) else
 Y (.inr (g,()))) (bK.wrap (f+(1:Z)),l,())).bind λ(n,_)=>
 Y (n,())
def Y9 {cmp:Z->Z->ak8} {h:Z->Z->bz} (m:pw h) (c:ala) (A:∀r s,r∈c->s∈c->∃d,cmp r s=Y (d,())/\(d<0↔h r s=bp)) (I:c.length<=1000):ae (Fz cmp c 0 (c.length:Z)) (λd=>∃a,d.1=az c.length a/\px h a c.length/\d.1.Perm c):=by
 unfold Fz;generalize o:c.length=e at*;have z:bK.wrap (0+1)=((1:X):Z):=(by rw[cu]<;>omega);rw[z];rcases oK e with G|C
 ·subst G;refine bG (P:=λd=>d.1=c) ?_ ?_
  ·refine alv (λj=>j=(((1:X):Z),c,())) (λ_=>0) rfl ?_;rintro _ rfl;simp only[c7];rw[ar aa];exact bv.2 bn
  rintro⟨d,_⟩ rfl;refine bv.2 ⟨λ_=>0,?_,λp q t u=>by omega,anf _⟩;show d=[];exact rC o
 refine bG (P:=λd=>∃a,d.1=az e a/\px h a e/\d.1.Perm c) ?_ (λd E=>bv.2 E);refine ae.for e (λg H=>∃a,H=(az e a,())/\px h a g/\(az e a).Perm c) rfl ⟨λg=>c[g]?.getD default,?_,λp q t u=>by omega,?_⟩ C ?_ ?_
 ·rw[<-o,<-Fa]
 ·rw[<-o,<-Fa]
 ·rintro g _ t u ⟨a,rfl,i,f⟩;simp only[c7];rw[au aa];refine bG (P:=λd=>∃a,d=(az e a,())/\px h a (g+1)/\(az e a).Perm c) ?_ ?_
  ·refine alv (λj=>∃(b:X) (a:X->Z),j=((b:Z),az e a,())/\b<=g/\uN h a g b/\(az e a).Perm c) (λj=>j.1.toNat) ⟨g,a,bn,bc _,λp q D K J=>i p q D aa,f⟩ ?_;rintro _ ⟨b,a,rfl,n,l,f⟩;simp only[Io];by_cases v:0<b
   ·have B:b-1<e:=aa;have w:b<e:=aa;obtain⟨d,F,x⟩:=A (a b) (a (b-1)) (f.mem_iff.1 (Qz.2 ⟨b,w,bn⟩)) (f.mem_iff.1 (Qz.2 ⟨b-1,B,bn⟩));simp(disch:=omega) only[au,cI,Cn,e9,gT,aI,F,c7];by_cases k:h (a b) (a (b-1))=bp
    ·rw[au (x.2 k)];simp(disch:=omega) only[aI,cI,Cn,e9,gT,ho];refine bv.2 ⟨⟨b-1,swp a b,bn,aa,l.swp m v n k,(TV v w).trans f⟩,?_⟩;show((b-1:X):Z).toNat<((b:X):Z).toNat;omega
    rw[ar (λy=>k (x.1 y))];exact bv.2 ⟨a,bn,l.done m n (.inr (by simpa using k)),f⟩
   rw[ar aa];exact bv.2 ⟨a,bn,l.done m n (.inl aa),f⟩
  rintro _ ⟨a,rfl,i,f⟩;simp(disch:=omega) only[lJ];exact bv.2 ⟨bn,a,bn,i,f⟩
 rintro _ ⟨a,rfl,i,f⟩;simp only[c7];rw[ar aa];exact bv.2 ⟨a,bn,i,f⟩
def Qe (a:eu) (b c:Z):Prop:=ES a b<ES a c\/(ES a b=ES a c/\b<c)
instance(a:eu) (b c:Z):alQ (Qe a b c):=by unfold Qe;exact inferInstance
end
section
open Go
def g5 (o:ala) (a:X):X:=o.idxOf (a:Z)
section
variable {o:ala} {n:X} (A:ff o n)
include A
theorem ff.mem (j:a<n):(a:Z)∈o:=by
 apply Classical.byContradiction;intro d;obtain⟨g,h,i⟩:=A;have e:o=cZ (o.map alH):=by
  unfold cZ;rw[qt]
  conv=>lhs;rw[<-List.map_id o]
  grind [alA]
 have b:(o.map alH).Nodup:=(by grind [cA,b6]);have c:a∉o.map alH:=λf=>d (by grind);have:=aaQ (n:=n) (j4.2 ⟨c,b⟩) (λl k=>by
  grind)
 grind
theorem ff.pos (d:a<n):g5 o a<n/\hY o (g5 o a)=a:=by have b:=A.mem d;have c:g5 o a<o.length:=CC.2 b;refine⟨by rw[<-A.1];exact c,?_⟩;grind [yn,g5,hY]
theorem ff.Lc (b:a<n):g5 o (hY o a)=a:=by have c:=(A.get b).2;obtain⟨d,e⟩:=A.pos c;exact A.inj d b e
end
section
variable {B:eu} (C:fA B) {o:ala} (A:ff o B.length)
include C A
end
end
def mL (E:bm cY) (b c:Z):Z:=match E.find? λa=>br (a.1=b)&&br (a.2.1=c) with
 |some a=>a.2.2.1
 |none=>0
theorem XJ {E:bm cY} (i:E.Pairwise hB) {a:cY} (c:Q∈E) (d:a∈E) (g:Q.1=a.1) (h:Q.2.1=a.2.1):Q=a:=by
 obtain⟨e,j,rfl⟩:=g8.1 c;obtain⟨f,k,rfl⟩:=g8.1 d;rcases sY e f with b|b|b
 ·grind [cA,hB]
 ·grind
 grind [cA,hB]
theorem Um {E:bm cY} (e:E.Pairwise hB) (f:Q∈E):mL E Q.1 Q.2.1=Q.2.2.1:=by
 unfold mL;cases b:E.find? λa=>br (a.1=Q.1)&&br (a.2.1=Q.2.1) with
 |none=>
  grind
 |some a=>
  have c:=List.find?_some b;have d:=Hs b;simp only[cF,alB] at c;grind [XJ]
theorem ahr {E:bm cY} (b:∀a∈E,¬(a.1=c/\a.2.1=j)):mL E c j=0:=by grind [List.find?_eq_none,mL]
theorem Un {E:bm cY} (d:(E++[Q]).Pairwise hB) (b c:Z):mL (E++[Q]) b c=if Q.1=b/\Q.2.1=c then Q.2.2.1 else mL E b c:=by
 by_cases a:Q.1=b/\Q.2.1=c
 ·rw[au a,<-a.1,<-a.2,Um d ac]
 rw[ar a];unfold mL;grind
theorem ahp {E:bm cY} (f:∀d∈E,fh d.2.2.1) (b c:Z):fh (mL E b c):=by
 unfold mL;cases e:E.find? λa=>br (a.1=b)&&br (a.2.1=c) with
 |none=>exact⟨ab,ab⟩
 |some a=>grind
theorem ahq {E:bm cY} (d:∀c∈E,bh c.2.2.1≠2047) (a b:Z):bh (mL E a b)≠2047:=by grind [aqM,decide,bh,mL]
theorem Qy (f:gM g b d p q) (i:a<b):Q∈c0 d p q b/\Q.2.1=(a:Z)↔∃c:X,d.getD a 0<=(c:Z)/\(c:Z)<d.getD (a+1) 0/\Q=(p.getD c 0,(a:Z),q.getD c 0,()):=by
 have r:=f.pos a aa;have s:=f.pos (a+1) aa;constructor
 ·rintro⟨e,j⟩;obtain⟨h,m,e⟩:=Bz.1 e;obtain⟨t,o,rfl⟩:=wc.1 e;have n:h=a:=(by grind);grind
 rintro⟨c,k,l,rfl⟩;refine⟨Bz.2 ⟨a,i,wc.2 ⟨c-(d.getD a 0).toNat,aa,?_⟩⟩,bn⟩;grind
theorem aeM (k:iW g b p d q) (w:gI g b p d q=0) (i:Z) (n:a<b):x8 (((g:Z),(b:Z),p,d,q,()),i,(a:Z),())=Y (mL (c0 p d q b) i (a:Z),()):=by
 have f:=(kE.1 w).1;have A:=f.pos a aa;have B:=f.pos (a+1) aa;have I:=f.si (a+1) aa;have J:=f.val;have G:=f.mono a n;have F:=f.len;have E:=k.hi;have u:=tH f b (bc _);have D:=k.hc;unfold x8;refine ai (y:=.inl ()) ?_ ?_
 ·refine ai k.yX ?_;grind
 dsimp only;rw[hG (aa:a<p.length),bN];refine bO.1 ?_;obtain⟨e,x⟩:=ald A;obtain⟨h,v⟩:=ald B;have t:aw p (aQ (a:Z))=Y (h:Z):=(by rw[bg aa,hG aa,v]);rw[t,x];refine bG (P:=λl=>(l=.inl ()/\∀c:X,e<=c->c<h->d.getD c 0≠i)\/∃c:X,e<=c/\c<h/\d.getD c 0=i/\l=.inr (q.getD c 0,())) ?_ ?_
 ·refine bR (h-e) (λj C=>C=(((e+j:X):Z),())/\∀c:X,e<=c->c<e+j->d.getD c 0≠i) ⟨bn,λc r m=>absurd m aa⟩ ?_ ?_
  ·rintro j _ H ⟨rfl,o⟩;dsimp only;rw[bN,a7 (aH (aa:((e+j:X):Z)<(h:Z)))];refine bA (hG aa) ?_;by_cases s:d.getD (e+j) 0=i
   ·rw[a7 (by grind)];refine bA (hG aa) (bv.2 ?_);grind
   rw[a2 (by grind),bg aa];grind [cn,bv]
  rintro _ ⟨rfl,o⟩;dsimp only;rw[bN,a2 (aD (aa:¬(((e+(h-e):X):Z)<(h:Z))))];grind [bv]
 rintro l (⟨rfl,o⟩|⟨c,r,m,s,rfl⟩)
 ·grind [Qy,ahr,bv]
 refine bv.2 ?_;have z:=((Qy f n).2 ⟨c,aa,aa,bn⟩).1;have:=Um u z;grind
theorem aeT (y:a<=10000) (z:d.length<=1000000):EL (d,(a:Z),())=Y (open Classical in decide (ff d a),()):=by
 classical
 unfold EL;dsimp only;by_cases n:d.length=a
 ·rw[a2 (by grind)];refine ai (im aa) ?_;refine bO.1 ?_;refine bG (P:=λp=>(p=.inl ()/\ff d a)\/(p=.inr (bq,())/\¬ff d a)) ?_ ?_
  ·refine bR a (λb t=>t=((b:Z),az a (λc=>br ((c:Z)∈d.take b)),())/\(∀e∈d.take b,0<=e/\e<(a:Z))/\(d.take b).Nodup) ?_ ?_ ?_
   ·grind [jk]
   ·rintro b _ x ⟨rfl,h,i⟩;dsimp only;rw[a7 (aH (aa:(b:Z)<(a:Z))),eT (aa:b<d.length)];have o:d[b]'(by omega)∈d:=b6 _
    have r:d.take (b+1)=d.take b++[d[b]'(by omega)]:=by simp_all
    have j:∀e,e∈d.take (b+1)↔e∈d.take b\/e=d[b]'(by omega):=λe=>by rw[r,g0,gq]
    have q:(d.take (b+1)).Sublist d:=anS _ _;generalize B:d[b]'(by omega)=c at*
    simp only[aI];by_cases v:c<0
    ·rw[a2 (show(br (c<0)==bq)=bq by grind)];refine bv.2 (.inr ⟨bn,λg=>?_⟩);have:=g.2.1 c o;omega
    rw[a7 (show(br (c<0)==bq)=bp by grind)];by_cases w:c>=(a:Z)
    ·rw[a2 (show(br (c>=(a:Z))==bq)=bq by grind)];refine bv.2 (.inr ⟨bn,λg=>?_⟩);have:=g.2.1 c o;omega
    rw[a7 (show(br (c>=(a:Z))==bq)=bp by grind)];obtain⟨k,rfl⟩:=gh (aa:0<=c);rw[iE (by grind [cI]),k1];by_cases l:(k:Z)∈d.take b
    ·rw[a7 (aH l)];refine bv.2 (.inr ⟨bn,λg=>?_⟩);have:=apF q g.2.2;grind
    rw[a2 (aD l)];simp only[aI];rw[lI (by grind [cI]),ho];refine bv.2 ⟨?_,?_,?_⟩
    ·rw[bg aa];have:az a (eG (λc=>br ((c:Z)∈d.take b)) k bp)=az a (λc=>br ((c:Z)∈d.take (b+1))):=by
      refine df λu A=>?_;by_cases m:u=k
      ·grind [gH,aH]
      rw[g6 _ _ m];refine cB.2 ⟨λf=>(j _).2 (.inl f),λf=>((j _).1 f).resolve_right λf=>m aa⟩
     grind
    ·intro e s;rcases(j e).1 s with f|f
     ·grind
     omega
    grind
   rintro _ ⟨rfl,h,i⟩;dsimp only;rw[a2 (aD (aa:¬((a:Z)<(a:Z))))];rw[ch aa] at h i;exact bv.2 (.inl ⟨bn,n,h,i⟩)
  grind [bv,aH,aD]
 rw[a7 (by grind),aD (λf=>n f.1)]
theorem aeX (c:iW a b p d q) (g:z.length<=1000000):EN (((a:Z),(b:Z),p,d,q,()),z,())=Y (open Classical in if gI a b p d q≠0 then gI a b p d q else if a≠b then 5 else if ff z a then 0 else 90,()):=by
 classical
 unfold EN;refine ai c.yX ?_;dsimp only;have h:=c.hr;by_cases e:gI a b p d q=0
 ·rw[e,fQ,aH bn,ar (ale bn)];by_cases f:a=b
  ·subst f;rw[fQ,aH bn,ar (ale bn)];refine ai (aeT aa g) ?_;grind
  grind
 grind
theorem aer (e:a<d.length) (g:d[a]=(b:Z)) (f:(b:Z)∉d.take a):g5 d b=a:=by unfold g5;have c:d=d.take a++(d[a]::d.drop (a+1)):=(by rw[List.getElem_cons_drop,j5]);grind
theorem aeg (B:a<=10000) (C:d.length<=1000000):ER (d,(a:Z),())=Y (open Classical in if ff d a then(az a (λb=>(g5 d b:Z)),bp,()) else([],bq,())):=by
 classical
 unfold ER;dsimp only;by_cases p:d.length=a
 ·rw[a2 (by grind)];refine ai (im aa) (ai (im aa) ?_);refine bO.1 ?_;refine bG (P:=λo=>(o=.inl (az a (λb=>(g5 d b:Z)),())/\ff d a)\/(o=.inr ([],bq,())/\¬ff d a)) ?_ ?_
  ·refine bR a (λc x=>x=((c:Z),az a (λb=>if(b:Z)∈d.take c then(g5 d b:Z) else 0),az a (λb=>br ((b:Z)∈d.take c)),())/\(∀g∈d.take c,0<=g/\g<(a:Z))/\(d.take c).Nodup) ?_ ?_ ?_
   ·grind [jk]
   ·rintro c _ A ⟨rfl,m,n⟩;dsimp only;rw[a7 (aH (show(c:Z)<ao d by grind)),eT (aa:c<d.length)];have q:d[c]'(by omega)∈d:=b6 _
    have u:d.take (c+1)=d.take c++[d[c]'(by omega)]:=by simp_all
    have j:∀g,g∈d.take (c+1)↔g∈d.take c\/g=d[c]'(by omega):=λg=>by rw[u,g0,gq]
    have t:(d.take (c+1)).Sublist d:=anS _ _;have s:∀f:X,d[c]'(by omega)=(f:Z)->(f:Z)∉d.take c->g5 d f=c:=λf=>aer aa
    generalize r:d[c]'(by omega)=b at*
    simp only[aI];by_cases y:b<0
    ·rw[a2 (show(br (b<0)==bq)=bq by grind)];refine bv.2 (.inr ⟨bn,λh=>?_⟩);have:=h.2.1 b q;omega
    rw[a7 (show(br (b<0)==bq)=bp by grind)];by_cases z:b>=(a:Z)
    ·rw[a2 (show(br (b>=(a:Z))==bq)=bq by grind)];refine bv.2 (.inr ⟨bn,λh=>?_⟩);have:=h.2.1 b q;omega
    rw[a7 (show(br (b>=(a:Z))==bq)=bp by grind)];obtain⟨f,rfl⟩:=gh (aa:0<=b);rw[iE (by grind [cI]),k1];by_cases l:(f:Z)∈d.take c
    ·simp only[aI];rw[a7 (aH l)];refine bv.2 (.inr ⟨bn,λh=>?_⟩);have:=apF t h.2.2;grind
    simp only[aI];rw[a2 (aD l)];simp only[aI];rw[lI (by grind [cI]),ho,lI (by grind [cI]),ho];refine bv.2 ⟨?_,?_,?_⟩
    ·rw[bg aa];have:az a (eG (λb=>br ((b:Z)∈d.take c)) f bp)=az a (λb=>br ((b:Z)∈d.take (c+1))):=by
      refine df λk v=>?_;by_cases i:k=f
      ·grind [gH,aH]
      rw[g6 _ _ i];refine cB.2 ⟨λe=>(j _).2 (.inl e),λe=>((j _).1 e).resolve_right λe=>i aa⟩
     rw[this];have:az a (eG (λb=>if(b:Z)∈d.take c then(g5 d b:Z) else 0) f (c:Z))=az a (λb=>if(b:Z)∈d.take (c+1) then(g5 d b:Z) else 0):=by
      refine df λk v=>?_;by_cases i:k=f
      ·subst i;rw[gH,au ((j _).2 (.inr bn)),s k bn l]
      rw[g6 _ _ i];have:(k:Z)∈d.take (c+1)↔(k:Z)∈d.take c:=⟨λe=>((j _).1 e).resolve_right λe=>i aa,λe=>(j _).2 (.inl e)⟩;simp_all
     grind
    ·intro g w;rcases(j g).1 w with e|e
     ·grind
     omega
    grind [aog,alh]
   rintro _ ⟨rfl,m,n⟩;dsimp only;rw[a2 (aD (show¬((a:Z)<ao d) by grind))];rw[ch aa] at m n|-;have h:ff d a:=⟨p,m,n⟩;refine bv.2 (.inl ⟨?_,h⟩);have:az a (λb=>if(b:Z)∈d then(g5 d b:Z) else 0)=az a (λb=>(g5 d b:Z)):=df λb r=>ca (h.mem r);grind
  rintro o (⟨rfl,e⟩|⟨rfl,e⟩)
  ·simp_all [au,bv]
  simp_all [bv,ar]
 rw[a7 (by grind),ar (λe=>p e.1)]
def wM (a b:X) (d c e f:ala):Z:=open Classical in if gI a b d c e≠0 then gI a b d c e else if a≠b then 5 else if ff f a then 0 else 90
theorem TH (c:wM a b q d z p=0):gI a b q d z=0/\a=b/\ff p a:=by unfold wM at c;grind
def k3 (a:X) (E:bm cY) (b:ala):eu:=kc (ks (kq a (kf E)) b)
theorem Jv (b:X) (c:X->X->bz):∀a∈kq b c,a.length<=b:=by intro a d;unfold kq az at d;grind [alF,jG]
theorem Bd (a:X) (b:X->X->bz):(kq a b).length=a:=cI _ _
theorem YD (c:X) (E:bm cY):kq c (kf E)=kc (iB c (l8 E)):=by rw[Pl];have:(λa b=>a !=b&&(l8 E a b||l8 E b a))=kf E:=(by grind [PT]);grind
theorem R7 (e:a<=12) {E:bm cY} (b:ff d a):nb (kq a (kf E)) d=0:=by unfold nb;have c:jh (kq a (kf E))=0:=ve.2 ⟨by grind [Bd],by grind [Jq,YD]⟩;rw[ar (ale c),ar (ale (by rw[Bd];exact b.1)),Bd,au b]
theorem Vf (e:a<=12) {E:bm cY} (b:ff d a):Ak ((kq a (kf E),()),d,())=Y ((k3 a E d,()),0,()):=by rw[Ve (λf c=>by have:=Jv a _ f c;omega) d (λ_ _=>by grind [Bd]) (by rw[b.1];omega),au (R7 e b)];rfl
def aeV (c:a<=12) {E:bm cY} (e:ff d a):tB ((kq a (kf E),()),d,())=Y ((k3 a E d,()),0,()):=by rw[Lt (λf b=>by have:=Jv a _ f b;omega) d,au (R7 c e)];rfl
def vU {E:bm cY} (b:ff d a):(k3 a E d).length=a:=by unfold k3;rw[Yr,yp,b.1]
def Bf (a:X) (E:bm cY) (b:ala):fA (k3 a E b):=Jq _
def YK (f:a<=12) {E:bm cY} (e:ff d a):∀b∈k3 a E d,b.length<4611686018427387904:=λb c=>by have:=Ys _ b c;rw[yp,e.1] at this;omega
def UX (f:mR a p d q) (r:iW a a p d q) (h:gI a a p d q=0):Ai (sn a a (gW (c0 p d q a)),())=Y ((kq a (kf (gW (c0 p d q a))),()),0,()):=by have b:=(kE.1 h).1;have k:=(kE.1 h).2;have j:=tH b a (bc _);have l:=tG b;have t:=f.el;have u:=f.BE;have m:=tI b r.hw;have n:=tI b (Jh k);have i:=Bu j;have g:=Bt l;have s:=TD (rows:=a) (eO:=a) (E:=gW (c0 p d q a)) aa aa aa (λe c=>m e (h1.1 c).1);have o:=NS i g (λe c=>n e (h1.1 c).1);have:=UU s o;rw[OU i g] at this;exact this
def yc:e2:=(bq,((bq,([],())),((0:Z),())))
def Xq:yc=aA (Y 0):=by rw[hf];rfl
def yG:aP 0=Y 0:=by decide
theorem FO {j:Type}:∀(i:bm (Z×j)) (c:Z) (d:j) (b:Z),gd (ku i c d) b=if b=c then Y d else gd i b
 |[],c,d,b=>by
  show(if c=b then Y d else bo)=_;by_cases e:b=c
  ·rw[au e,au e.symm]
  rw[ar e,ar (λf=>e f.symm)];rfl
 |(a,u)::r,c,d,b=>by
  unfold ku;by_cases g:c<a
  ·rw[au g];show(if c=b then Y d else gd ((a,u)::r) b)=_;grind
  rw[ar g];by_cases h:c=a
  ·rw[au h];show(if c=b then Y d else gd r b)=_;by_cases e:b=c
   ·rw[au e,au e.symm]
   rw[ar e,ar (λf=>e f.symm)];show _=(if a=b then Y u else gd r b);grind
  rw[ar h];show(if a=b then Y u else gd (ku r c d) b)=_;rw[FO r c d b];show _=if b=c then Y d else(if a=b then Y u else gd r b)
  grind
abbrev oJ:=bu (bm (Z×e2)×X)
variable{N:bm oJ}
def oe (a b:Z):Z:=if b>a then b else a
def nE (a b:Z):Z:=if b<a then b else a
def gU (E:bm cY) (a:ala) (b c:X):eA:=aP (mL E (oe (a.getD b 0) (a.getD c 0)) (nE (a.getD b 0) (a.getD c 0)))
theorem OV (E:bm cY) (a:ala) (b c:X):gU E a b c=gU E a c b:=by grind [oe,nE,gU]
structure lp (n:X) (o:ala) (D:bm cY) (M:bm oJ):Prop where
 len:M.length=n
 get:∀p,p<n->∃l c,M[p]?=Y (Y (l,c))/\∀q,q<n->p<=q->(gd l (q:Z)).getD yc=aA (gU D o p q)
def lp.nil:lp a d [] (az a λ_=>Y ([],0)) where
 len:=cI _ _
 get:=λc b=>⟨[],0,gV b,λe _ _=>by
  show yc=aA (aP 0);rw[yG,Xq]⟩
theorem yR (c:ff d b) (e:a<b):d.getD a 0=(hY d a:Z)/\hY d a<b:=by have f:a<d.length:=(by rw[c.1];exact e);have:=c.2.1 d[a] (cL f);grind [kr,hY]
theorem aes (c:ff d b) {e:X} (j:e<b) (i:a<b) (n:a<=e) (f:g<b) (h:v<b) (o:g<=v):(nE (g5 d e:Z) (g5 d a:Z)=(g:Z)/\oe (g5 d e:Z) (g5 d a:Z)=(v:Z))↔(e:Z)=oe (d.getD g 0) (d.getD v 0)/\(a:Z)=nE (d.getD g 0) (d.getD v 0):=by
 obtain⟨k,p⟩:=yR c f;obtain⟨ax,r⟩:=yR c h;obtain⟨t,u⟩:=c.pos j;obtain⟨l,m⟩:=c.pos i;have q:=c.Lc f;have s:=c.Lc h;rw[k,ax];constructor
 ·grind [al,oe,nE,g5]
 grind [hY,nE,oe,al]
theorem lp.skip {b:bm cY} (c:lp a d b N) (k:(b++[Q]).Pairwise hB) (o:Q.1<Q.2.1):lp a d (b++[Q]) N where
 len:=c.len
 get:=λm h=>by obtain⟨l,e,f,g⟩:=c.get m h;refine⟨l,e,f,λn j i=>?_⟩;rw[g n j i];unfold gU;rw[Un k,ar];grind [nE,oe]
theorem lp.add (y:ff d v) {h:bm cY} (i:lp v d h N) {j:X} (A:(h++[((b:Z),(a:Z),c,())]).Pairwise hB) (z:b<v) (t:a<v) (u:a<=b) (G:(g:Z)=nE (g5 d b:Z) (g5 d a:Z)) (F:(j:Z)=oe (g5 d b:Z) (g5 d a:Z)) {n:bm (Z×e2)} {B C:X} (w:N[g]?=Y (Y (n,B))):lp v d (h++[((b:Z),(a:Z),c,())]) (N.set g (Y (ku n (j:Z) (aA (aP c)),C))) where
 len:=by rw[anI,i.len]
 get:=λf k=>by
  have x:g<N.length:=(h0.1 w).1;have D:∀e,e<v->f<=e->aA (gU (h++[((b:Z),(a:Z),c,())]) d f e)=if g=f/\j=e then aA (aP c) else aA (gU h d f e):=by intro e m l;have:=aes y z t u k m l;unfold gU;rw[Un A];grind
  by_cases p:f=g
  ·subst p;refine⟨_,_,List.getElem?_set_self x,λe m l=>?_⟩;rw[FO,D e m l];by_cases q:j=e
   ·grind
   rw[ar aa,ar (λi=>q i.2)];obtain⟨E,o,r,s⟩:=i.get f k;grind
  obtain⟨E,o,r,s⟩:=i.get f k;grind
theorem aeL (i:iW a a q p z) (h:gI a a q p z=0) (e:ff d a) (m:b<a) (n:g<a):EK (((a:Z),(a:Z),q,p,z,()),d,(b:Z),(g:Z),())=Y (aA (gU (c0 q p z a) d b g),()):=by obtain⟨r,s⟩:=yR e m;obtain⟨ax,t⟩:=yR e n;have o:=e.1;have j:=tI (kE.1 h).1 i.hw;unfold EK;refine ai (hG aa) (ai (hG aa) ?_);obtain⟨c,k,l⟩:∃c:X,nE (d.getD b 0) (d.getD g 0)=(c:Z)/\c<a:=(by grind [nE]);have f:=aeM i h (oe (d.getD b 0) (d.getD g 0)) l;rw[<-k] at f;refine ai f ?_;dsimp only;refine ai (Lx (ahp j _ _)) rfl
theorem MG (w:mR a q p d) (n:iW a a q p d) (x:gI a a q p d=0) (o:ff z a):∃c,lp a z (c0 q p d a) c/\tC (((a:Z),(a:Z),q,p,d,()),z,())=Y (Y ((a:Z),(k3 a (gW (c0 q p d a)) z,()),c,()),0,()):=by
 have Q:=w.BE;have h:=(kE.1 x).1;have ap:=tH h a (bc _);have a0:=tG h;have ce:=o.1;have a3:=tI h n.hw;suffices D:ae (tC (((a:Z),(a:Z),q,p,d,()),z,())) λf=>∃c,lp a z (c0 q p d a) c/\f=(Y ((a:Z),(k3 a (gW (c0 q p d a)) z,()),c,()),0,()) by obtain⟨f,am,c,an,rfl⟩:=D;grind
 unfold tC;refine bA n.check ?_;dsimp only;rw[a2 (by grind),a2 (by grind)];refine bA (aeg aa aa) ?_;rw[ca o];dsimp only;rw[Bool.not_true,bP];refine bA (U2 w n x) (bA (UX w n x) (bA (Vf (cx Q ab) o) ?_));dsimp only;generalize av:k3 a (gW (c0 q p d a)) z=l;refine bA (im aa) ?_;generalize O:(((a:Z),(a:Z),q,p,d,()):da)=J;refine bG (P:=λf=>f=(J,((a:Z),(l,()),az a (λ_=>(Y ([],0):oJ)),()),())) ?_ ?_
 ·refine bR a (λk r=>r=((k:Z),J,((a:Z),(l,()),az a (λj=>if j<k then(Y ([],0):oJ) else bo),()),())) ?_ ?_ ?_
  ·rw[jk];rfl
  ·rintro k _ M rfl;dsimp only;rw[a7 (aH (show(k:Z)<ao (bJ a (bo:oJ)) by grind)),bg aa];refine bA (e9 (by grind [cI])) ?_;rw[gT M,ho];refine bv.2 ?_;have:az a (eG (λj=>if j<k then(Y ([],0):oJ) else bo) k (Y ([],0)))=az a (λj=>if j<k+1 then(Y ([],0):oJ) else bo):=by
    refine df λj B=>?_;by_cases v:j=k
    ·simp_all [gH,au]
    rw[g6 _ _ v];grind
   grind
  rintro _ rfl;dsimp only;rw[a2 (aD (show¬((a:Z)<ao (bJ a (bo:oJ))) by grind))];have:az a (λj=>if j<a then(Y ([],0):oJ) else bo)=az a (λ_=>(Y ([],0):oJ)):=df λj B=>ca B;grind [bv]
 rintro _ rfl;dsimp only;refine bG (P:=λf=>∃c,lp a z (c0 q p d a) c/\f=(((a:Z),(l,()),c,()),())) ?_ (by grind [bv]);subst O;refine bR a (λb r=>∃c,lp a z (c0 q p d b) c/\r=((b:Z),((a:Z),(a:Z),q,p,d,()),((a:Z),(l,()),c,()),())) ⟨_,lp.nil,bn⟩ ?_ ?_
 ·rintro b _ t ⟨c,m,rfl⟩;have u:=h.len;obtain⟨e,N⟩:=ald (h.pos b aa);obtain⟨i,G⟩:=ald (h.pos (b+1) aa);have bl:i<=p.length:=(by have:=h.si (b+1) aa;omega);have bx:e<=i:=(by have:=h.mono b t;omega);have B:=h.val;have a4:=n.hi;dsimp only;rw[a7 (aH (aa:(b:Z)<(a:Z))),bg aa];refine bA (y:=(e:Z)) (by rw[hG aa,N]) ?_;have R:c0 q p d (b+1)=c0 q p d b++jt p d (b:Z) e (i-e):=by
   grind [c0]
  have T:(c0 q p d (b+1)).Pairwise hB:=tH h (b+1) aa;refine bG (P:=λf=>∃c,lp a z (c0 q p d (b+1)) c/\f=(((a:Z),(a:Z),q,p,d,()),((a:Z),(l,()),c,()),())) ?_ (by grind [bv]);refine bR (i-e) (λg r=>∃c,lp a z (c0 q p d b++jt p d (b:Z) e g) c/\r=(((e+g:X):Z),((a:Z),(a:Z),q,p,d,()),((a:Z),(l,()),c,()),())) ⟨c,by grind [jt],bn⟩ ?_ ?_
  ·rintro g _ ci ⟨c,m,rfl⟩;dsimp only;refine bA (y:=(i:Z)) (by rw[hG aa,G]) ?_;rw[a7 (aH (aa:((e+g:X):Z)<(i:Z)))];have S:=h.rng b (e+g) t aa aa;obtain⟨f,A⟩:=ald S.1;have I:(c0 q p d b++jt p d (b:Z) e g++[((f:Z),(b:Z),d.getD (e+g) 0,())]).Pairwise hB:=by
    refine aqJ ?_ T;rw[R,lQ];refine art (aru _) ?_;have:jt p d (b:Z) e g++[((f:Z),(b:Z),d.getD (e+g) 0,())]=jt p d (b:Z) e (g+1):=(by rw[jt,A]);rw[this,I7,I7,<-Fb (i-e) (g+1) _ aa];grind
   have L:c0 q p d b++jt p d (b:Z) e (g+1)=c0 q p d b++jt p d (b:Z) e g++[((f:Z),(b:Z),d.getD (e+g) 0,())]:=(by rw[lQ,jt,A]);rw[L];refine bG (P:=λad=>∃c,lp a z (c0 q p d b++jt p d (b:Z) e g++[((f:Z),(b:Z),d.getD (e+g) 0,())]) c/\ad=(((a:Z),(a:Z),q,p,d,()),((a:Z),(l,()),c,()),())) ?_ ?_
   ·refine bA (y:=(f:Z)) (by rw[hG aa,A]) ?_;rw[c7];refine amF (λv=>?_) (λv=>?_)
    ·have H:f<a:=aa;refine bA (by rw[eT (by grind [cI]),k1]) (bA (by rw[eT (by grind [cI]),k1]) ?_);obtain⟨s,E,K⟩:∃s:X,(s:Z)=nE (g5 z f:Z) (g5 z b:Z)/\s<a:=by
      have:=(o.pos H).1;have:=(o.pos t).1;unfold nE;split
      ·grind
      grind
     obtain⟨C,F⟩:∃C:X,(C:Z)=oe (g5 z f:Z) (g5 z b:Z):=(by unfold oe;grind);change ae ((be c.length (nE (g5 z f:Z) (g5 z b:Z))).bind _) _;rw[<-E];refine bA (e9 (by rw[m.len];omega)) ?_;refine bA (hG aa) ?_;refine bA (q4 (n.hw _ (by grind))) ?_;dsimp only;obtain⟨V,U,u,_⟩:=m.get s K;refine bA (hb u) ?_;change ae ((uc (Y (V,U)) (oe (g5 z f:Z) (g5 z b:Z)) _).bind _) _;rw[<-F];refine bA bn ?_;rw[hb u];exact bv.2 ⟨_,m.add o I H t aa E F u,bn⟩
    exact bv.2 ⟨c,m.skip I (by grind),bn⟩
   rintro _ ⟨c,D,rfl⟩;dsimp only;rw[bg aa];grind [bv]
  rintro _ ⟨c,m,rfl⟩;dsimp only;refine bA (y:=(i:Z)) (by rw[hG aa,G]) ?_;rw[a2 (aD (aa:¬((e+(i-e):X):Z)<(i:Z)))];grind [bv]
 rintro _ ⟨c,m,rfl⟩;dsimp only;rw[a2 (aD (aa:¬((a:Z)<(a:Z))))];grind [bv]
def U6 (f:a<=5) (e:iW a a p d q) (c:gI a a p d q=0) (g:ff z a):∃b,lp a z (c0 p d q a) b/\tC (((a:Z),(a:Z),p,d,q,()),z,())=Y (Y ((a:Z),(k3 a (gW (c0 p d q a)) z,()),b,()),0,()):=MG (mR.F1 f c) e c g
theorem Tj {E:bm cY} (h:lp a d E N) (p:b<a) (q:g<a):vE (Y ((a:Z),(s,()),N,()),(b:Z),(g:Z),())=Y (aA (gU E d b g),()):=by
 unfold vE;dsimp only;rw[bN];have r:∀c e:X,c<a->e<a->c<=e->((aw N (c:Z)).bind λn=>Y (((gO (α:=e2) n (e:Z)).getD (bq,((bq,([],())),((0:Z),())))),()))=Y (aA (gU E d c e),()):=(by intro c e k m l;obtain⟨t,o,i,j⟩:=h.get c k;refine ai (gJ i) ?_;have:=j e m l;rw[<-this];rfl);by_cases f:(g:Z)<(b:Z)
 ·rw[au f,ar aa,OV];grind
 grind
theorem F2 (a:bh c≠2047):∃d,aP c=Y d:=by
 have al:=A6 c;have g:=yf c;unfold aP;rw[ar a];unfold hh;generalize f:(if c<9223372036854775808 then if bh c=0 then gw c else gw c+4503599627370496 else-(if bh c=0 then gw c else gw c+4503599627370496))=b;have e:aF b.natAbs<=53:=fJ.2 (by
  omega)
 split
 ·grind
 rw[ar aa];grind
def agT (a:X->X->Z) (c d b:X):eA:=c5 (bk (aP (a b c)) (aP (a b d)))
def LD (c:X->X->eA) (d:X->X->Z) (a b:X):eA:=sF (c b a::(bI a).map (agT d b a))
def WM (b:X->X->eA) (e:X->X->bz) (d:X->X->Z) (a c:X):Z:=
 if c=a then GC (LD b d a a) 0 else if e a c=bp then fi (LD b d a c) (aP (GC (LD b d a a) 0)) 0 else 0
def Kd (a:X->X->eA) (b:X->X->bz):X->X->X->Z
 |0=>λ_ _=>0
 |j+1=>λd c=>if d=j then WM a b (Kd a b j) j c else Kd a b j d c
def v9 (b:X->X->eA) (d:X->X->bz) (a c:X):Z:=Kd b d (a+1) a c
def Sk (a:fh c) (b:fh j):EJ (c,j,())=Y (aA (bk (aP c) (aP j)),()):=by unfold EJ;refine ai (Lx a) (ai (Lx b) ?_);exact ai (afk (kv _) (kv _)) rfl
theorem FY {k:X} (b:c.natAbs=2*a+1):cD (c*2^k)=c/\cW (c*2^k)=(k:Z)-65536:=by have d:(c*2^k).natAbs=(2*a+1)*2^k:=(by rw[i7,b]);have e:=zh d;unfold cD cW;grind [Int.mul_ediv_cancel,aoy]
def Sg (b:c≠0) (a:X):c*2^a≠0:=anT b (by have:(0:Z)<2^a:=lm ab;omega)
theorem QG (e:c.natAbs=2*g+1) (o:j+a+65536=(b:Z)) (m:-65536<=j) (n:j+a+aF c.natAbs<=65536):hh (c*2^a) j=Y (c*2^b):=by have l:c≠0:=aa;have f:(c*2^a).natAbs=(2*g+1)*2^a:=(by rw[i7,e]);have h:=zh f;have i:aF (c*2^a).natAbs=aF c.natAbs+a:=(by grind [i7,rU]);unfold hh;rw[ar (Sg l a),h,i,ar aa];obtain⟨d,k⟩:=gh (aa:0<=j+65536);rw[k];show Y (rj (c*2^a) (d:Z))=_;rw[pg,jb,<-mf,(aa:a+d=b)]
def Jd {m:Z} {a t k:X} (d:c=m*2^t) (b:m.natAbs=2*a+1) (f:(t:Z)+65536=(k:Z)) (e:t+aF m.natAbs<=65536):jm c=Y (m*2^k):=by unfold jm;rw[d];exact QG b aa ab aa
def E7 {a:X} (e:c.natAbs=2*a+1) (f:0<c) (d:Z):kx (Y (c*2^b)) d=la bq c.natAbs ((b:Z)-65536) bq d:=by obtain⟨g,h⟩:=FY (k:=b) e;show p4 (c*2^b) d=_;unfold p4;rw[ar (Sg aa b),g,h,aD];have:(0:Z)<c*2^b:=qi f (lm ab);omega
theorem XZ {a:X} (d:c.natAbs=2*a+1) (e:0<c):GC (Y (c*2^b)) 0=SZ (SY c.natAbs ((b:Z)-65536)) c.natAbs ((b:Z)-65536) 0:=by obtain⟨f,g⟩:=FY (k:=b) d;have:(0:Z)<c*2^b:=qi e (lm ab);show(if c*2^b<0 then(9221120237041090560:Z) else if c*2^b=0 then 0 else Ly (c*2^b) 0)=_;rw[ar aa,ar aa];grind [Ly]
theorem XY {a b:X} (f:c.natAbs=2*a+1) (h:0<c) (d:j.natAbs=2*b+1) (e:0<j):fi (Y (c*2^g)) (Y (j*2^v)) 0=yV (oj c.natAbs j.natAbs) c.natAbs j.natAbs bq ((g:Z)-65536-((v:Z)-65536)) 0:=by obtain⟨i,l⟩:=FY (k:=g) f;obtain⟨m,n⟩:=FY (k:=v) d;have o:(0:Z)<c*2^g:=qi h (lm ab);have p:(0:Z)<j*2^v:=qi e (lm ab);show(if j*2^v=0 then(9221120237041090560:Z) else if c*2^g=0 then 0 else om (c*2^g) (j*2^v) 0)=_;rw[ar aa,ar aa];grind [aD,om]
def E6 {a t:X} (d:j.natAbs=2*a+1) (g:(if c<9223372036854775808 then if bh c=0 then gw c else gw c+4503599627370496 else-(if bh c=0 then gw c else gw c+4503599627370496))=j*2^t) (f:bh c≠2047) (h:(if bh c=0 then-1074 else bh c-1075)+(t:Z)+65536=(b:Z)) (e:(if bh c=0 then-1074 else bh c-1075)+(t:Z)+aF j.natAbs<=65536):aP c=Y (j*2^b):=by unfold aP;rw[ar f,g];refine QG d h ?_ e;have:=A6 c;omega
def f4:kx (jm 4) 0=4616189618054758400:=by rw[Jd (m:=1) (a:=0) (t:=2) (k:=65538) ab ab ab ab,E7 (a:=0) ab ab];decide
def f2:kx (jm 2) 0=4611686018427387904:=by rw[Jd (m:=1) (a:=0) (t:=1) (k:=65537) ab ab ab ab,E7 (a:=0) ab ab];decide
def f5:kx (jm 5) 0=4617315517961601024:=by rw[Jd (m:=5) (a:=2) (t:=0) (k:=65536) ab ab ab ab,E7 (a:=2) ab ab];decide
def v4:aP 4616189618054758400=Y (1*2^65538):=E6 (a:=0) (t:=52) ab ab ab ab ab
def fb:aP 4611686018427387904=Y (1*2^65537):=E6 (a:=0) (t:=52) ab ab ab ab ab
def Md:aP 4617315517961601024=Y (5*2^65536):=E6 (a:=2) (t:=50) ab ab ab ab ab
def v1:aP 4607182418800017408=Y (1*2^65536):=E6 (a:=0) (t:=52) ab ab ab ab ab
def aV:GC (Y (1*2^65538)) 0=4611686018427387904:=by rw[XZ (a:=0) ab ab];decide+kernel
def ax:fi (Y (1*2^65537)) (Y (1*2^65537)) 0=4607182418800017408:=by rw[XY (a:=0) (b:=0) ab ab ab ab];decide
theorem OY:ff [0,1] 2:=⟨bn,λb a=>by
 grind,ab⟩
def Jc:eu:=[[1],[0]]
def oM (g f e:X) (h a d:ala):Prop:=∃c,c<=a.length/\gM g f h (a.take c) (d.take c)/\d.length=a.length/\(∀b,c<=b->b<a.length->0<=a.getD b 0/\a.getD b 0<(e:Z))/\(∀b,c<b->b<a.length->a.getD (b-1) 0<a.getD b 0)
def gM.open (c:gM b a p d q):oM b a 0 p d q:=
 ⟨d.length,bc _,by rw[fU (bc _),fU (amT c.val)];exact c,c.val,λg f e=>absurd e aa,λg f e=>absurd e aa⟩
theorem oM.skip (f:oM g b a p d q):oM g b (a+1) p d q:=by obtain⟨m,h,i,j,k,l⟩:=f;exact⟨m,h,i,j,λn c e=>by have:=k n c e;omega,l⟩
def Be (b:a<d.length):(d++[c]).getD a 0=d.getD a 0:=by rw[ky,qp b,<-ky]
def Jw:(d++[c]).getD d.length 0=c:=by rw[ky,rD (bc _)];simp
theorem oM.add (j:oM g b a p d q) (o:Z):oM g b (a+1) p (d++[(a:Z)]) (q++[o]):=by
 obtain⟨n,k,l,r,i,m⟩:=j;refine⟨n,by simp;omega,?_,by simp;omega,λe f h=>?_,λe f h=>?_⟩
 ·rw[uW k,uW aa];exact l
 ·rw[hI,nU] at h;rcases cU e d.length with c|c
  ·rw[Be c];have:=i e f c;omega
  obtain rfl:e=d.length:=aa;rw[Jw];omega
 rw[hI,nU] at h;rcases cU e d.length with c|c
 ·rw[Be c,Be aa];exact m e f c
 obtain rfl:e=d.length:=aa;rw[Jw,Be aa];exact(i (d.length-1) aa aa).2
def Jx (c:a<b):(d.take b).getD a 0=d.getD a 0:=by rw[ky,rF c,<-ky]
def oM.close (s:oM b a b p d q):gM b (a+1) (p++[(d.length:Z)]) d q:=by
 obtain⟨x,m,i,t,u,v⟩:=s;have n:=i.len;have o:=i.last;rw[gu,hR m] at o;have l:(p++[(d.length:Z)]).getD (a+1) 0=(d.length:Z):=(by rw[<-n];exact Jw);have e:∀c,c<=a->(p++[(d.length:Z)]).getD c 0=p.getD c 0:=λc j=>Be aa;have r:∀c,c<=a->p.getD c 0<=(x:Z):=λc j=>(by have:=i.si c j;rw[gu,hR m] at this;exact this);refine⟨by simp[n],by rw[e 0 aa];exact i.first,λc j=>?_,l,t,λc k j g h=>?_,λc k j g h=>?_⟩
 ·rcases cU c a with f|f
  ·rw[e c aa,e (c+1) aa];exact i.mono c f
  obtain rfl:c=a:=aa;rw[e c aa,l,o];omega
 ·rcases cU c a with f|f
  ·rw[e c aa] at g;rw[e (c+1) aa] at h;have w:=r (c+1) aa;have:=i.rng c k f g h;rw[Jx aa] at this;exact this
  obtain rfl:c=a:=aa;rw[e c aa] at g;rw[l] at h;exact u k aa aa
 rcases cU c a with f|f
 ·rw[e c aa] at g;rw[e (c+1) aa] at h;have w:=r (c+1) aa;have:=i.asc c k f g h;rw[Jx aa,Jx aa] at this;exact this
 obtain rfl:c=a:=aa;rw[e c aa] at g;rw[l] at h;exact v k aa aa
def gM.empty (d:X):gM d 0 [0] [] []:=⟨bn,bn,λb a=>absurd a aa,bn,bn,λb c a=>absurd a aa,λb c a=>absurd a aa⟩
structure Cx (P:Z->Prop) (rows eO:X) (m:da):Prop where
 ex:∃st i6 nO,m=((rows:Z),(eO:Z),st,i6,nO,())/\gM rows eO st i6 nO/\(∀v∈nO,P v)/\i6.length<=eO*rows
abbrev Cw:=Cx fh
def Cw.agm (g:b<=6) (f:a<=6) (c:gM b a q d p) (e:∀h∈p,fh h) (i:d.length<=a*b):iW b a q d p:=by have j:a*b<=6*6:=nr f g;exact⟨aa,aa,aa,by rw[c.len];omega,by rw[c.val];omega,e⟩
def UW (y:∀o,fh o->ae (x0 (o,c,())) λE=>R E.1) (B:d.length<=9223372036854775807) (C:a<=6) (z:b<=6):ae (xZ (d,(a:Z),(b:Z),c,())) λl=>Cx R a b l.1:=by
 have L:b*a<=6*6:=Nat.mul_le_mul z C;unfold xZ;dsimp only;refine bG (P:=λl=>Cx R a b l.2.1) ?_ (by rintro⟨F,G,_⟩ q;exact bv.2 q);refine bR b (λg r=>∃h e f,r=((g:Z),((0:Z),((0:Z),([],([],([],()))))),((a:Z),(b:Z),h,e,f,()),())/\gM a g h e f/\(∀i∈f,R i)/\e.length<=g*a) ?_ ?_ ?_
 ·exact⟨[0],[],[],bn,gM.empty a,ac,ac⟩
 ·rintro g _ A ⟨h,e,f,rfl,t,x,I⟩;have K:g*a+a<=6*6:=by
   have:(g+1)*a<=b*a:=gj _ A;rw[jD,h3] at this;omega
  dsimp only;rw[a7 (aH (aa:(g:Z)<(b:Z))),bg aa];refine bG (P:=λl=>∃e f,l=(((0:Z),((0:Z),([],([],([],()))))),((a:Z),(b:Z),h,e,f,()),())/\oM a g a h e f/\(∀i∈f,R i)/\e.length<=g*a+a) ?_ ?_
  ·refine bR a (λj r=>∃e f,r=((j:Z),((0:Z),((0:Z),([],([],([],()))))),((a:Z),(b:Z),h,e,f,()),())/\oM a g j h e f/\(∀i∈f,R i)/\e.length<=g*a+j) ?_ ?_ ?_
   ·exact⟨e,f,bn,t.open,x,aa⟩
   ·rintro j _ J ⟨e,f,rfl,p,s,H⟩;have M:f.length=e.length:=by
     obtain⟨N,_,_,q,_⟩:=p;exact q
    dsimp only;rw[a7 (aH (aa:(j:Z)<(a:Z))),bg aa];refine bG (P:=λl=>∃e f,l=(((0:Z),((0:Z),([],([],([],()))))),((a:Z),(b:Z),h,e,f,()),())/\oM a g (j+1) h e f/\(∀i∈f,R i)/\e.length<=g*a+(j+1)) ?_ ?_
    ·refine bG (Mf d B _) ?_;rintro⟨D,_⟩ v;dsimp only at v|-;rw[zb ab ab,bN];unfold jy;rw[ca ab,bN,c7];refine amF (λw=>?_) (λw=>?_)
     ·rw[e3 (by simp;omega),bN];refine bG (y D v) ?_;rintro⟨i,_⟩ u;dsimp only at u|-;rw[e3 (by simp;omega),bN];refine bv.2 ⟨_,_,bn,p.add i,λo n=>?_,by simp;omega⟩;rcases List.mem_append.1 n with n|n
      ·exact s o n
      obtain rfl:=gq.1 n;exact u
     exact bv.2 ⟨_,_,bn,p.skip,s,aa⟩
    rintro _ ⟨e,f,rfl,ax,k,m⟩;exact bv.2 ⟨e,f,bn,ax,k,m⟩
   rintro _ ⟨e,f,rfl,ax,k,m⟩;dsimp only;rw[a2 (aD (aa:¬((a:Z)<(a:Z))))];exact bv.2 ⟨e,f,bn,ax,k,m⟩
  rintro _ ⟨e,f,rfl,ax,k,m⟩;dsimp only;rw[e3 (by rw[t.len];simp;omega),bN];refine bv.2 ⟨_,_,_,bn,ax.close,k,by rw[aqN,aoz];omega⟩
 rintro _ ⟨h,e,f,rfl,ax,k,m⟩;dsimp only;rw[a2 (aD (aa:¬((b:Z)<(b:Z))))];exact bv.2 ⟨h,e,f,bn,ax,k,m⟩
def Cw.small (h:b<=5) (g:a<=5) (c:gM b a q d p) (e:∀i∈p,fh i) (f:d.length<=a*b):iW b a q d p:=
 Cw.agm (cO h ab) (cO g ab) c e f
def UV {P:Z->Prop} (f:∀e,fh e->ae (x0 (e,c,())) λk=>P k.1) (h:d.length<=9223372036854775807) (i:b<=5) (g:a<=5):ae (xZ (d,(b:Z),(a:Z),c,())) λj=>Cx P b a j.1:=
 UW f h (cO i ab) (cO g ab)
theorem aho (e:R 0) {E:bm cY} (d:∀c∈E,R c.2.2.1) (a b:Z):R (mL E a b):=by grind [aqM,decide,mL]
theorem U7 (i:d.length<=9223372036854775807) {n:X} (q:n<=12):ae (Eg (d,(n:Z),())) λb=>b.1.Perm ((bI n).map (λe:X=>(e:Z))):=by
 unfold Eg;dsimp only;refine bG (P:=λb=>b.1.Perm ((bI n).map (λe:X=>(e:Z)))) ?_ (by grind [bv]);refine bR n (λc o=>∃a,o=(a,(c:Z),())/\a.Perm ((bI c).map (λe:X=>(e:Z)))) ⟨[],bn,anf _⟩ ?_ ?_
 ·rintro c _ p ⟨a,rfl,k⟩;have j:a.length=c:=(by have:=k.length_eq;grind);dsimp only;rw[a7 (aH (aa:(c:Z)<(n:Z))),bg aa];refine bG (Mf d i _) ?_;rintro⟨h,_⟩ m;dsimp only at m|-;rw[zb ab ab,bN];refine bA (BC _ (n:=c+1) aa aa) ?_;have r:=FU (ay (h/2^(1:Z).toNat)) (n:=c+1) aa;dsimp only;generalize pV (ay (h/2^(1:Z).toNat)) (c+1)=b at*;refine bA (GO aa) ?_;dsimp only;rw[e3 (by grind),bN,e3 (by grind),bN];have l:((hj (b:Z)).bind λf=>(Y a.length).bind λg=>(hX f g a.length).map λ_=>(f,g))=Y (b,a.length):=by
   have:hj (b:Z)=Y b:=(by simp_all [au,fP,hj]);rw[this];show(hX b a.length a.length).map _=_;unfold hX;grind
  refine bA l ?_;dsimp only;rw[e3 (by grind),bN];refine bv.2 ⟨_,bn,?_⟩;rw[alG,List.map_append,cy];have s:a.take b++a.drop b=a:=anA b a;grind
 rintro _ ⟨a,rfl,j⟩;simp_all [bv,a2,aD]
theorem FW (a:X):hj (a:Z)=Y a:=by simp_all [au,fP,hj]
theorem agl (e:b<=a) (f:a<=g):((hj (b:Z)).bind λc=>(hj (a:Z)).bind λd=>(hX c d g).map λ_=>(c,d))=Y (b,a):=by simp_all [au,FW,hX]
def ag6 (e:a*2^g=b*2^v) (h:0<a) (f:0<b):cR a+g=cR b+v/\aF a+g=aF b+v:=by have c:=b3 cR e;have d:=b3 aF e;rw[G4 aa,G4 f] at c;rw[rU aa,rU f] at d;exact⟨c,d⟩
theorem QS (a:j*c=w*2^65536) (q:gz w):bk (Y j) (Y c)=Y w:=by
 show hh (cD j*cD c) (eF j+eF c)=Y w;have f:∀g:X,(2:Z)^g≠0:=λg=>(by have:(0:Z)<2^g:=lm ab;omega);by_cases b:j=0
 ·rw[b,nm] at a;rw[b,FX,nm,(zz.1 a.symm).resolve_right (f _)];rfl
 by_cases d:c=0
 ·rw[d,am8] at a;rw[d,FX,am8,(zz.1 a.symm).resolve_right (f _)];rfl
 have t:=pY j;have u:=pY c;have aQ:=j1 b;have s:=j1 d;have x:=BI.1 ⟨aa,Q7 b⟩;have y:=BI.1 ⟨aa,Q7 d⟩;have o:cD j*cD c≠0:=anT aQ s;have k:cR (cD j*cD c).natAbs=0:=(by refine(BI.2 ?_).2;rw[lj,Nat.mul_mod,x,y]);have al:cD j*cD c*2^(cR j.natAbs+cR c.natAbs)=w*2^65536:=by
  rw[<-a,mf]
  conv=>rhs;rw[<-t,<-u]
  rw[jb,jb,apG (cD c)]
 have m:eF j=(cR j.natAbs:Z)-65536:=(by rw[eF,ar b];rfl);have n:eF c=(cR c.natAbs:Z)-65536:=(by rw[eF,ar d];rfl);rw[m,n];generalize cR j.natAbs=h at*;generalize cR c.natAbs=i at*;generalize cD j*cD c=B at*;have e:=b3 amG al;rw[i7,i7] at e;have r:0<w.natAbs:=aet e aa;obtain⟨l,z⟩:=ag6 e aa r;rw[k] at l;have A:aF w.natAbs<=131072:=q;unfold hh;rw[ar o,k,ar aa];obtain⟨v,p⟩:=gh (aa:0<=(h:Z)-65536+((i:Z)-65536)+65536);rw[p,pg];congr 1;have:h+i=v+65536:=aa;rw[this,mf,<-jb] at al;exact Int.mul_eq_mul_right_iff (f _)|>.1 al
def kK (a:Z):Z:=if a<9223372036854775808 then if bh a=0 then gw a else gw a+4503599627370496 else-(if bh a=0 then gw a else gw a+4503599627370496)
def ly (a:Z):Z:=if bh a=0 then-1074 else bh a-1075
def E4 (a:bh c≠2047):-1074<=ly c/\ly c<=971:=by have:=A6 c;unfold ly;split<;>omega
def Kp (a:Z):aF (kK a).natAbs<=53:=fJ.2 (by
 have b:=yf a;have:(2:X)^53=9007199254740992:=ab;rw[this];unfold kK;split<;>split<;>omega)
theorem o9 (b:bh c≠2047):aP c=Y (kK c*2^(ly c+65536).toNat):=by
 have h:=E4 b;have g:=Kp c;unfold aP;rw[ar b];change hh (kK c) (ly c)=_;generalize kK c=f at*;generalize ly c=d at*;unfold hh;by_cases a:f=0
 ·rw[au a,a,nm]
 rw[ar a,ar aa];obtain⟨i,e⟩:=gh (aa:0<=d+65536);rw[e,pg,fP]
section
section
variable {A:X->X->eA} {G:eu} {o:ala} {n:X}
def Zh (u:n<=200) (h:ff o n):Od (o,())=Y (bp,()):=by
 have l:=h.1;unfold Od;dsimp only;rw[show ao o=(n:Z) by rw[bb,l]];refine ai (im aa) ?_;refine bO.1 ?_;refine bG (P:=λq=>q=.inl ()) ?_ (by rintro _ rfl;exact bv.2 bn);refine bR n (λa r=>r=((a:Z),az n (λb=>br ((b:Z)∈o.take a)),())) ?_ ?_ ?_
 ·rw[jk];simp
 ·rintro a _ t rfl;dsimp only;rw[a7 (aH (aa:(a:Z)<(n:Z))),eT (aa:a<o.length)];have j:o.take (a+1)=o.take a++[o[a]'(by omega)]:=by rw[ali,bX aa];rfl
  have p:=h.2.1 _ (cL (aa:a<o.length));have i:=apF (anS (a+1) o) h.2.2;rw[j,iI] at i;have m:o[a]'(by omega)∉o.take a:=λk=>i.2.2 _ k _ (gq.2 bn) rfl
  have g:∀e,e∈o.take (a+1)↔e∈o.take a\/e=o[a]'(by omega):=λe=>by rw[j,g0,gq]
  clear i j;generalize w:o[a]'(by omega)=b at*
  obtain⟨d,rfl⟩:=gh p.1;simp only[aI];rw[a7 (show(br ((d:Z)<0)==bq)=bp by rw[aD aa];rfl),a7 (show(br ((d:Z)>=(n:Z))==bq)=bp by rw[aD aa];rfl)];rw[iE (by rw[cI];omega),k1,a2 (aD m)];simp only[aI];rw[lI (by rw[cI];omega),ho];refine bv.2 ?_;rw[bg aa];have:az n (eG (λb=>br ((b:Z)∈o.take a)) d bp)=az n (λb=>br ((b:Z)∈o.take (a+1))):=by
   refine df λs v=>?_;by_cases f:s=d
   ·subst f;rw[gH,aH ((g _).2 (.inr bn))]
   rw[g6 _ _ f];exact cB.2 ⟨λc=>(g _).2 (.inl c),λc=>((g _).1 c).resolve_right λc=>f aa⟩
  rw[this]
 rintro _ rfl;dsimp only;rw[a2 (aD (aa:¬((n:Z)<(n:Z))))];exact bv.2 bn
end
end
section
section
variable {A:X->X->eA} {G:eu} {o:ala} {n:X}
def yb {n j:X} (b:a<n):(j*n+a)/n=j/\(j*n+a) %n=a:=by
 constructor
 ·rw[j6,apB aa,aot b,ml]
 rw[j6,Nat.mul_add_mod,Nat.mod_eq_of_lt b]
def CY {n:X} (c:a<n) (d:b<n):a*n+b<n*n:=by have:(a+1)*n<=n*n:=gj _ c;rw[jD,h3] at this;omega
def sD {n:X} (a:n<=5):n*n<=25:=nr a a
def Ur {n:X} (f:n<=5) (e:a<n) (d:b<n):ay (ay ((a:Z)*(n:Z))+(b:Z))=((a*n+b:X):Z):=by have h:=CY e d;have i:=sD f;have c:(a:Z)*(n:Z)=((a*n:X):Z):=(by rw[qj]);rw[c];generalize a*n=g at*;generalize n*n=j at*;rw[cG (x:=(g:Z)) aa aa,cG aa aa];omega
def Us {n:X} (b:n<=5):ay ((n:Z)*(n:Z))=((n*n:X):Z):=by have c:=sD b;have a:(n:Z)*(n:Z)=((n*n:X):Z):=(by rw[qj]);rw[a];generalize n*n=d at*;rw[cG aa aa]
end
end
section
section
variable {A:X->X->eA} {G:eu} {o:ala} {n:X}
def aeS (a:n<=5):EI ((n:Z),(n:Z),())=Y (((n:Z),(n:Z),az (n*n) (λ_=>yc),()),()):=by have b:=sD a;unfold EI;dsimp only;rw[Us a];refine ai (im aa) ?_;rw[jk];rfl
def uG (b:X->e2) (c a:X):e2:=if a<c then b a else yc
theorem ahf (a:X->e2) {N p:X}:(az N (uG a p)).set p (a p)=az N (uG a (p+1)):=by
 rw[ho];refine df λc _=>?_;by_cases b:c=p
 ·simp_all [au,gH,uG]
 rw[g6 _ _ b];unfold uG;grind
end
end
section
def k9 (A:X->X->eA) (n:X):bm e2:=az (n*n) λa=>aA (A (a %n) (a/n))
section
variable {n:X} {st C D o:ala}
def Va (i:n<=5) (r:iW n n st C D) (q:gI n n st C D=0) (s:ff o n):Ab (((n:Z),(n:Z),st,C,D,()),o,())=Y (((n:Z),(n:Z),k9 (gU (c0 st C D n) o) n,()),0,()):=by
 obtain⟨t,m,p⟩:=U6 i r q s;have v:=sD i;unfold Ab;refine ai p ?_;dsimp only;rw[a2 (by rfl)];refine ai bn ?_;dsimp only;rw[a2 (aD (aa:¬(n:Z)>64))];refine ai bn (ai bn (ai bn ?_));generalize c0 st C D n=E at*;generalize k3 n (gW E) o=G at*;refine bO.1 ?_;dsimp only;generalize w:(((0:Z),(0:Z),[],()):s9)=d;refine bG (P:=λe=>e=(d,((n:Z),(n:Z),k9 (gU E o) n,()),())) ?_ (by rintro _ rfl;exact bv.2 bn);refine bR n (λa f=>f=((a:Z),d,((n:Z),(n:Z),az (a*n) (λb=>aA (gU E o (b %n) (b/n))),()),())) ?_ ?_ ?_
 ·rw[Nat.zero_mul];rfl
 ·rintro a _ h rfl;dsimp only;rw[a7 (aH (aa:(a:Z)<(n:Z))),bg aa];have u:a*n+n<=n*n:=by
   have:(a+1)*n<=n*n:=gj _ h;rw[jD,h3] at this;omega
  refine bA bn ?_;refine bG (P:=λe=>e=(d,((n:Z),(n:Z),az (a*n+n) (λb=>aA (gU E o (b %n) (b/n))),()),())) ?_ (by rintro _ rfl;exact bv.2 (by rw[jD,h3]));refine bR n (λc f=>f=((c:Z),d,((n:Z),(n:Z),az (a*n+c) (λb=>aA (gU E o (b %n) (b/n))),()),())) rfl ?_ ?_
  ·rintro c _ g rfl;dsimp only;rw[a7 (aH (aa:(c:Z)<(n:Z))),bg aa];refine bA (Tj m g h) ?_;dsimp only;refine bA (EU (kv _)) ?_;dsimp only;rw[e3 (by rw[cI];simp;omega),bN];refine bv.2 ?_;obtain⟨k,l⟩:=yb (n:=n) (j:=a) g;rw[<-aoA,o3 (a*n+c),k,l]
  rintro _ rfl;dsimp only;rw[a2 (aD (aa:¬((n:Z)<(n:Z))))];exact bv.2 bn
 rintro _ rfl;dsimp only;rw[a2 (aD (aa:¬((n:Z)<(n:Z))))];exact bv.2 bn
def aeU (g:n<=5) (q:iW n n st C D) (l:gI n n st C D=0) (h:ff o n):EM (((n:Z),(n:Z),st,C,D,()),o,())=Y (((n:Z),(n:Z),k9 (gU (c0 st C D n) o) n,()),0,()):=by
 classical
 have x:=sD g;have w:=h.1;have t:=λc b (d:c<n) (e:b<n)=>aeL q l h d e;unfold EM;refine ai (aeX q aa) ?_;have u:(if gI n n st C D≠0 then gI n n st C D else if n≠n then 5 else if ff o n then 0 else 90)=0:=(by rw[b8 (ale l),b8 (ale bn),ca h]);rw[u];dsimp only;rw[a2 (by rfl),a2 (aD (aa:¬(n:Z)>64))];refine ai (aeS g) ?_;dsimp only;generalize c0 st C D n=E at*;refine bO.1 ?_;generalize y:(((0:Z),(0:Z),[],()):s9)=f;refine bG (P:=λi=>i=(f,((n:Z),(n:Z),k9 (gU E o) n,()),())) ?_ (by rintro _ rfl;exact bv.2 bn);refine bR n (λb k=>k=((b:Z),f,((n:Z),(n:Z),az (n*n) (uG (λa=>aA (gU E o (a %n) (a/n))) (b*n)),()),())) ?_ ?_ ?_
 ·rw[Nat.zero_mul];rfl
 ·rintro b _ e rfl;dsimp only;rw[a7 (aH (aa:(b:Z)<(n:Z))),bg aa];refine bG (P:=λi=>i=(f,((n:Z),(n:Z),az (n*n) (uG (λa=>aA (gU E o (a %n) (a/n))) (b*n+n)),()),())) ?_ (by rintro _ rfl;exact bv.2 (by rw[aqN,aoz]));refine bR n (λc k=>k=((c:Z),f,((n:Z),(n:Z),az (n*n) (uG (λa=>aA (gU E o (a %n) (a/n))) (b*n+c)),()),())) rfl ?_ ?_
  ·rintro c _ d rfl;dsimp only;rw[a7 (aH (aa:(c:Z)<(n:Z))),bg aa];refine bA (t c b d e) ?_;dsimp only;have m:=CY e d;rw[Ur g e d];refine bA (e9 (by rw[cI];exact m)) ?_;rw[gT m];refine bv.2 ?_;have:=ahf (λa=>aA (gU E o (a %n) (a/n))) (N:=n*n) (p:=b*n+c);obtain⟨r,s⟩:=yb (n:=n) (j:=b) d;rw[r,s] at this;rw[<-aoA,<-this]
  rintro _ rfl;dsimp only;rw[a2 (aD (aa:¬((n:Z)<(n:Z))))];exact bv.2 bn
 rintro _ rfl;dsimp only;rw[a2 (aD (aa:¬((n:Z)<(n:Z))))];refine bv.2 ?_;have:az (n*n) (uG (λa=>aA (gU E o (a %n) (a/n))) (n*n))=k9 (gU E o) n:=df λa v=>ca v;rw[this]
end
section
variable {A B:X->X->eA} {G:eu} {o:ala} {n:X}
def NW (a b:Z):gb a b>0↔b<a:=by
 unfold gb;split
 ·omega
 split<;>omega
def Ze:jm 0=Y 0:=rfl
end
end
def K6 {b:bz} (n:a<=9007199254740992) (o:-1074<=c) (m:4503599627370496<=a\/c=-1074) (d:bh (k7 b a c 0)≠2047):kK (k7 b a c 0)*2^(ly (k7 b a c 0)+65536).toNat=(if b then-(a:Z) else(a:Z))*2^(c+65536).toNat:=by
 have l:bh (q5 b 0)=2047:=(by cases b<;>decide);have j:∀(f k i:Z),bh f≠2047->kK f=k->ly f=i->k*2^(i+65536).toNat=(if b then-(a:Z) else(a:Z))*2^(c+65536).toNat->kK f*2^(ly f+65536).toNat=(if b then-(a:Z) else(a:Z))*2^(c+65536).toNat:=(by intro f k i _ h g e;rw[h,g];exact e);unfold k7 at d|-;by_cases h:a<4503599627370496
 ·rw[au h] at d|-;obtain rfl:c=-1074:=aa;refine j _ (if b then-(a:Z) else(a:Z)) (-1074) d ?_ ?_ bn
  ·unfold kK bh gw jH;cases b<;>simp<;>omega
  unfold ly bh jH;cases b<;>simp<;>omega
 rw[ar h] at d|-;by_cases g:a=9007199254740992
 ·rw[au g] at d|-;by_cases e:c+1+1075>=2047
  ·rw[au e] at d;exact absurd l d
  rw[ar e] at d|-;refine j _ (if b then-(4503599627370496:Z) else 4503599627370496) (c+1) d ?_ ?_ ?_
  ·unfold kK bh gw jH;cases b<;>simp<;>omega
  ·unfold ly bh jH;cases b<;>simp<;>omega
  have al:(c+1+65536).toNat=(c+65536).toNat+1:=aa;rw[al,Int.pow_succ,g];generalize(2:Z)^(c+65536).toNat=p;cases b<;>simp<;>omega
 rw[ar g] at d|-;by_cases e:c+1075>=2047
 ·rw[au e] at d;exact absurd l d
 rw[ar e] at d|-;refine j _ (if b then-(a:Z) else(a:Z)) c d ?_ ?_ bn
 ·unfold kK bh gw jH;cases b<;>simp<;>omega
 unfold ly bh jH;cases b<;>simp<;>omega
def W5 (m:bz) (d:X) {s:X} (i:bz) (t:1<=s):2*(hF m d s i 0*2^s)<=2*d+2^s/\2*(d+i.toNat)<=2*(hF m d s i 0*2^s)+2^s:=by
 obtain⟨b,rfl⟩:∃b,s=b+1:=⟨s-1,aa⟩;have o:2^(b+1)=2*2^b:=(by rw[nX,j6]);have q:0<2^b:=iV b;have n:=uX d (2^(b+1));have r:=rI d (aa:2^(b+1)>0);unfold hF lZ uF;rw[o] at*;generalize 2^b=a at*;generalize d %(2*a)=g at*;generalize d/(2*a)=j at*;rw[j6] at n;have h:(j+1)*(2*a)=j*(2*a)+2*a:=(by rw[jD,h3]);generalize c:j*(2*a)=p at*;cases i
 ·by_cases k:g=0
  ·simp[k,c];omega
  simp only[k,false_and,alV];by_cases e:2*g<2*a
  ·simp[e,c];omega
  by_cases f:2*a<2*g
  ·simp[e,f,c,h];omega
  simp only[e,f,alV];by_cases l:j %2=1
  ·simp[l,c,h];omega
  simp[l,c];omega
 by_cases e:2*g<2*a
 ·simp[e,c];omega
 by_cases f:2*a<2*g
 ·simp[e,f,c,h];omega
 simp[e,f,c,h];omega
def afD {f d:bz} (u:58<=aF a) (i:bh (la f a c d 0)≠2047):∃(g:X) (b:X),5<=b/\c+b=c8 a c/\(c+b=-1074\/(b:Z)+53=aF a)/\-1074<=c+b/\aP (la f a c d 0)=Y ((if f then-(g:Z) else(g:Z))*2^(c+b+65536).toNat)/\2*(g*2^b)<=2*a+2^b/\2*(a+d.toNat)<=2*(g*2^b)+2^b:=by
 have o:0<a:=by
  rcases oK a with h|h
  ·subst h;exact absurd u ab
  exact h
 have A:c8 a c=c+aF a-53\/c8 a c=-1074:=(by unfold c8;omega);have B:c+aF a-53<=c8 a c/\-1074<=c8 a c:=(by unfold c8;omega);have l:=zi (neg:=f) (q0:=d) (qZ:=0) (e:=c) o;have t:¬c8 a c<=c:=aa;unfold la at i|-;rw[ar t] at i l|-;generalize c8 a c=j at*;obtain⟨b,w⟩:=gh (aa:0<=j-c);rw[w,fP] at i l|-;have k:=W5 f a d (s:=b) aa;have v:4503599627370496<=hF f a b d 0\/j=-1074:=by
  by_cases h:j=-1074
  ·exact .inr h
  left;have x:b+53=aF a:=aa;have n:=(oV o).1;have q:aF a-1=b+52:=aa;rw[q,hy] at n;have y:=k.2;have z:=iV b;have r:(2:X)^52=4503599627370496:=ab;rw[r] at n;generalize 2^b=p at*;generalize hF f a b d 0=g at*;rcases cU g 4503599627370496 with m|m
  ·exfalso;have:g*p<=4503599627370495*p:=gj _ aa;omega
  exact m
 refine⟨hF f a b d 0,b,aa,aa,aa,aa,?_,k.1,k.2⟩;rw[o9 i,K6 l aa v i,(aa:c+(b:Z)=j)]
theorem p3 (a b:X):(2:Z)^(a+b)=2^a*2^b:=mf 2 a b
def KF (b:-65536<=cW c):c=cD c*2^(cW c+65536).toNat:=by have a:=pY c;have:(cW c+65536).toNat=cR c.natAbs:=(by unfold cW;omega);rw[this,a]
def E5 (a:Z):-65536<=cW a:=by unfold cW;omega
def af8 (a b:bz) (c:Z):(if(a !=b)=bp then-c else c)=(if a=bp then-1 else 1)*((if b=bp then-1 else 1)*c):=by cases a<;>cases b<;>simp
def KE (a:Z):cD a=(if br (a<0)=bp then-1 else 1)*((cD a).natAbs:Z):=by
 have:=BH (v:=a);by_cases b:a<0
 ·simp[b];omega
 simp[b];omega
def aeK (co:j≠0) (cs:c≠0) (en:-60000<=cW j) (eq:aF (cD c).natAbs<=4000) (E:bh (om j c 0)≠2047):∃y,aP (om j c 0)=Y y/\(y*c-j*2^65536).natAbs*2^1075<=j.natAbs*2^65536*2^1022+c.natAbs*2^65536:=by
 obtain⟨i,av⟩:∃i:X,i=65536:=⟨_,bn⟩;obtain⟨g,a0⟩:∃g:X,g=1022:=⟨_,bn⟩;rw[<-av,(aa:(1075:X)=g+53),<-a0];have an:0<(cD j).natAbs:=(by have:=j1 co;omega);have C:0<(cD c).natAbs:=(by have:=j1 cs;omega);have am:j=(if br (j<0)=bp then-1 else 1)*((cD j).natAbs:Z)*2^(cW j+65536).toNat:=(by rw[<-KE];exact KF (E5 j));have B:c=(if br (c<0)=bp then-1 else 1)*((cD c).natAbs:Z)*2^(cW c+65536).toNat:=(by rw[<-KE];exact KF (E5 c));have fl:=E5 c;have d6:oj (cD j).natAbs (cD c).natAbs=59+aF (cD c).natAbs-aF (cD j).natAbs:=rfl;unfold om yV at E|-;generalize d7:oj (cD j).natAbs (cD c).natAbs=d at*;generalize d2:(cD j).natAbs=f at*;generalize d3:(cD c).natAbs=a at*;have r:=Gp (k:=d) an C aa;obtain⟨h,b,el,_,a4,d5,ce,bs,bx⟩:=afD r E;refine⟨_,ce,?_⟩;obtain⟨e,em⟩:=gh (aa:0<=cW j-cW c-d+(cW c+131072));have d9:=uX (f*2^d) a;have d8:=rI (f*2^d) C;generalize ek:f*2^d/a=m at*;generalize f*2^d %a=I at*;have d4:2*(h*2^b*a)<=2*(f*2^d)+2^b*a/\2*(f*2^d)<=2*(h*2^b*a)+2^b*a:=by
  have ax:=gj a bs;have u:=gj a bx;rw[jD,kz 2,kz 2] at ax;rw[jD,kz 2,kz 2,jD] at u;have ex:a*m=m*a:=j6 _ _;constructor
  ·omega
  by_cases o:I=0
  ·omega
  have:br (I≠0)=bp:=(by simpa using o);rw[this] at u;simp only[Bool.toNat_true,h3] at u;omega
 have al:((if(br (j<0)!=br (c<0))=bp then-(h:Z) else(h:Z))*2^(cW j-cW c-(d:Z)+(b:Z)+65536).toNat)*c=(if br (j<0)=bp then-1 else 1)*((h*2^b*a*2^e:X):Z):=by
  have s:(cW j-cW c-(d:Z)+(b:Z)+65536).toNat+(cW c+65536).toNat=b+e:=aa;have t:(2:Z)^(cW j-cW c-(d:Z)+(b:Z)+65536).toNat*2^(cW c+65536).toNat=2^b*2^e:=(by rw[<-p3,s,p3]);rw[af8];refine(b3 (λv=>(if br (j<0)=bp then(-1:Z) else 1)*((if br (c<0)=bp then(-1:Z) else 1)*(h:Z))*2^(cW j-cW c-(d:Z)+(b:Z)+65536).toNat*v) B).trans ?_
  push_cast
  generalize(2:Z)^(cW j-cW c-(d:Z)+(b:Z)+65536).toNat=w at*;generalize(2:Z)^(cW c+65536).toNat=x at*;have ci:(if br (c<0)=bp then(-1:Z) else 1)*(if br (c<0)=bp then(-1:Z) else 1)=1:=(by cases br (c<0)<;>rfl);generalize(if br (c<0)=bp then(-1:Z) else 1)=q at*;generalize(if br (j<0)=bp then(-1:Z) else 1)=J at*;have:J*(q*(h:Z))*w*(q*(a:Z)*x)=J*((h:Z)*(a:Z))*(w*x)*(q*q):=(by simp only[jb,apG,jA]);rw[this,ci,t,Int.mul_one];simp only[jb,apG,jA]
 have A:j*2^i=(if br (j<0)=bp then-1 else 1)*((f*2^d*2^e:X):Z):=by
  have s:(cW j+65536).toNat+i=d+e:=aa;have t:(2:Z)^(cW j+65536).toNat*2^i=2^d*2^e:=(by rw[<-p3,s,p3]);refine(b3 (λv=>v*2^i) am).trans ?_
  push_cast
  rw[jb,t];simp only[jb]
 have S:j.natAbs*2^i=f*2^d*2^e:=(by have:=b3 amG A;rw[i7,lj,w6] at this;rw[this];split<;>simp);rw[al,A,S,<-Int.mul_sub,lj];have T:∀p:bz,(if p=bp then(-1:Z) else 1).natAbs=1:=(by intro p;cases p<;>rfl);rw[T,h3];have U:((h*2^b*a*2^e:X):Z)-((f*2^d*2^e:X):Z)=((h*2^b*a:X)-(f*2^d:X):Z)*((2^e:X):Z):=(by rw[Int.sub_mul];push_cast;rfl);rw[U,lj,w6];have ap:2*((h*2^b*a:X)-(f*2^d:X):Z).natAbs<=2^b*a:=(by generalize h*2^b*a=c1 at*;generalize f*2^d=p at*;generalize 2^b*a=ds at*;omega);generalize((h*2^b*a:X)-(f*2^d:X):Z).natAbs=n at*;have D:=gj (2^e) ap;have G:(2:X)^(g+53)=2*2^(g+52):=aqO;rcases a4 with a3|a3
 ·have V:2^b*a*2^e*2^(g+52)=c.natAbs*2^i:=by
   have K:c.natAbs=a*2^(cW c+65536).toNat:=(by have:=b3 amG B;rw[i7,lj,w6] at this;rw[this];split<;>simp);have L:b+e+(g+52)=(cW c+65536).toNat+i:=aa;have M:2^b*2^e*2^(g+52)=2^(cW c+65536).toNat*2^i:=(by rw[<-hy,<-hy,<-hy,L]);rw[K,kz a,<-M];simp only[kz,apH,j6]
  have:=gj (2^(g+52)) D;rw[V] at this;rw[G];generalize(2:X)^(g+52)=F at*;have ad:n*2^e*(2*F)=2*n*2^e*F:=(by simp only[kz,apH,j6]);rw[ad];exact cO this (Nat.le_add_left _ _)
 have N:aF m=b+53:=aa;have bl:0<m:=by
  rcases oK m with o|o
  ·rw[o] at r;exact absurd r ab
  exact o
 have z:=(oV bl).1;rw[N,show b+53-1=b+52 from rfl,hy] at z;have H:(2:X)^(g+53)=2*2^52*2^g:=(by rw[kz,<-hy,<-aqO,(aa:(52+g).succ=g+53)]);rw[H];clear H G;generalize(2:X)^52=l at*;generalize(2:X)^g=cv at*;have O:2^b*a*l<=f*2^d:=(by have:=gj a z;have dl:a*m=m*a:=j6 _ _;have R:2^b*a*l=2^b*l*a:=apI _ _ _;rw[R];omega);have c2:=gj (2^e) O;have dg:=gj l D;have P:n*2^e*(2*l)<=f*2^d*2^e:=(by have d0:n*2^e*(2*l)=2*n*2^e*l:=(by simp only[kz,apH,j6]);have d1:2^b*a*2^e*l=2^b*a*l*2^e:=apI _ _ _;omega);have Q:=gj cv P;rw[<-kz];exact cO Q (Nat.le_add_right _ _)
section
def To (b:eA) (n:Z):eA:=b.bind λa=>if a=0 then Y 0 else hh (cD a) (cW a+n)
def afN (c:c4 O) {n:Z} (k:-262144<=n) (l:n<=262144):Eu (aA O,n,())=Y (aA (To O n),()):=by
 unfold Eu;refine ai (q8 c) ?_;cases O with
 |none=>rfl
 |some a=>
  have d:=c a bn;have j:=kO d;have f:=kN d;rw[hf];have h:=kP (z:=cD a) aa;dsimp only;rw[a7 (by rfl),h,bN,bN];dsimp only;rw[lg,c7];by_cases b:a=0
  ·rw[au (Q6.2 b)];subst b;rfl
  have i:=λe=>b (Q6.1 e);rw[b8 i,bN];dsimp only;rw[a7 (by rw[aD aa];rfl),bN];dsimp only;rw[aD aa,bP,bN];dsimp only;have g:eF a=cW a:=(by unfold eF;rw[b8 b]);rw[g] at f|-;rw[cG aa aa];refine ai (yZ aa aa aa) ?_;show Y (aA (hh (cD a) (cW a+n)),())=Y (aA (if a=0 then Y 0 else hh (cD a) (cW a+n)),());rw[b8 b]
section
variable {A:X->X->eA} {G:eu} {o:ala} {n:X}
end
end
def fW (a:X) (b:Z):Prop:=∃c,b=c*2^a
theorem fW.zero (a:X):fW a 0:=⟨0,by rw[nm]⟩
theorem fW.add (d:fW a c) (b:fW a j):fW a (c+j):=by obtain⟨e,rfl⟩:=d;obtain⟨f,rfl⟩:=b;exact⟨e+f,by rw[Int.add_mul]⟩
def fW.neg (b:fW a c):fW a (-c):=by obtain⟨d,rfl⟩:=b;exact⟨-d,by rw[Int.neg_mul]⟩
theorem fW.mono (e:fW b c) (d:a<=b):fW a c:=by obtain⟨g,rfl⟩:=e;obtain⟨f,rfl⟩:=Nat.exists_eq_add_of_le d;exact⟨g*2^f,by rw[anr,p3,jb]⟩
def fW.shl (a:X) (b:Z):fW a (b*2^a):=⟨b,bn⟩
def fW.ge (f:fW a c) (e:c≠0):2^a<=c.natAbs:=by
 obtain⟨b,rfl⟩:=f;rw[i7];have:0<b.natAbs:=by
  rcases oK b.natAbs with d|d
  ·have:b=0:=aa;rw[this,nm] at e;exact absurd rfl e
  exact d
 exact aqP _ this
theorem fW.G2 (d:c≠0):fW a c↔a<=cR c.natAbs:=by
 rw[tV aa];constructor
 ·rintro⟨e,rfl⟩;rw[i7,Nat.mul_mod_left]
 intro b;exact⟨c/2^a,(ET b).symm⟩
def fW.ex (d:c≠0) (b:fW a c):(a:Z)-65536<=cW c:=by have:=(fW.G2 d).1 b;unfold cW;omega
def Gg {neg:bz} (b:Z) (d:a<=9007199254740992) (e:-1074<=c) (f:c<=900):k7 neg a c b=k7 neg a c 0/\bh (k7 neg a c 0)≠2047:=by
 unfold k7;rw[ar (aa:¬c+1+1075>=2047),ar (aa:¬c+1075>=2047),ar (aa:¬c+1+1075>=2047),ar (aa:¬c+1075>=2047)];refine⟨bn,?_⟩;split
 ·unfold bh jH;cases neg<;>simp<;>omega
 split
 ·unfold bh jH;cases neg<;>simp<;>omega
 unfold bh jH;cases neg<;>simp<;>omega
theorem afC (f:Z) (l:c≠0) (F:fW (65536-1074) c) (Q:aF c.natAbs<=65536+900):bh (p4 c f)≠2047/\∃p,aP (p4 c f)=Y p/\(∀m,fW m c->fW m p)/\p.natAbs<=2*c.natAbs/\c.natAbs<=2*p.natAbs:=by
 have ad:=F.ex l;have r:0<(cD c).natAbs:=(by have:=j1 l;omega);have S:=yF l;have V:=qc (n:=c.natAbs) aa;have q:c=(if br (c<0)=bp then-1 else 1)*((cD c).natAbs:Z)*2^(cW c+65536).toNat:=(by rw[<-KE];exact KF (E5 c));have C:(cW c+65536).toNat=cR c.natAbs:=(by unfold cW;omega);have O:cW c=(cR c.natAbs:Z)-65536:=rfl;unfold p4;rw[ar l];generalize R:(cD c).natAbs=a at*;generalize T:br (c<0)=d at*;have g:=zi (neg:=d) (q0:=bq) (qZ:=f) (e:=cW c) r;have M:c8 a (cW c)=cW c+aF a-53\/c8 a (cW c)=-1074:=(by unfold c8;omega);have o:cW c+aF a-53<=c8 a (cW c)/\-1074<=c8 a (cW c):=(by unfold c8;omega);have y:c8 a (cW c)<=900:=aa;have H:=oV r;unfold la;generalize c8 a (cW c)=h at*;by_cases u:h<=cW c
 ·rw[au u] at g|-;obtain⟨k,w⟩:=gh (aa:0<=cW c-h);rw[w,fP] at g|-;obtain⟨ax,j⟩:=Gg (neg:=d) f g o.2 y;have s:4503599627370496<=a*2^k\/h=-1074:=by
   rcases M with t|t
   ·left;have al:aF (a*2^k)=53:=(by rw[rU r];omega);have:=rT.1 (aa:52<aF (a*2^k));exact this
   exact .inr t
  rw[ax];refine⟨j,c,?_,λm E=>E,aa,aa⟩;rw[o9 j,K6 g o.2 s j];congr 1;have N:(cW c+65536).toNat=k+(h+65536).toNat:=aa;rw[N,p3] at q;refine Eq.trans ?_ q.symm
  push_cast
  generalize(2:Z)^k=am;generalize(2:Z)^(h+65536).toNat=an;cases d<;>simp<;>grind
 rw[ar u] at g|-;obtain⟨b,L⟩:=gh (aa:0<=h-cW c);rw[L,fP] at g|-;obtain⟨ax,j⟩:=Gg (neg:=d) f g o.2 y;have U:b+53=aF a:=aa;have K:hF d a b bq f<=a/2^b+1:=by
  unfold hF;split
  ·omega
  split<;>omega
 have G:2^52*2^b<=a:=(by rw[<-hy];exact cO (BQ _ _ aa) H.1);have x:=iV b;have J:4503599627370496<=a/2^b:=(apr x).2 G;have v:a/2^b<=hF d a b bq f:=by
  unfold hF;split
  ·exact bc _
  split<;>omega
 have s:=cO J v;have w:=Nat.div_mul_le_self a (2^b);rw[ax];generalize hF d a b bq f=i at*;refine⟨j,(if d=bp then-(i:Z) else(i:Z))*2^(h+65536).toNat,?_,?_,?_⟩
 ·rw[o9 j,K6 g o.2 (.inl s) j]
 ·intro m I;have:=(fW.G2 l).1 I;exact(fW.shl _ _).mono aa
 have al:(h+65536).toNat=b+cR c.natAbs:=aa;have z:c.natAbs=a*2^cR c.natAbs:=(by have:=b3 amG q;have B:(if d=bp then(-1:Z) else 1).natAbs=1:=(by cases d<;>rfl);rw[i7,lj,w6,C,B,h3] at this;exact this);have A:(if d=bp then-(i:Z) else(i:Z)).natAbs=i:=(by cases d<;>simp);rw[i7,al,hy,<-kz,A];have D:i*2^b<=(a/2^b+1)*2^b:=gj _ K;rw[jD,h3] at D;have f2:2^b<=2^52*2^b:=aqP _ ab;have P:a/2^b*2^b<=i*2^b:=gj _ v;have f4:=uX a (2^b);have f5:=rI a x;rw[j6] at f4;generalize cR c.natAbs=t at*;rw[z];constructor
 ·rw[<-kz];exact gj _ aa
 rw[<-kz];exact gj _ aa
section
def aeC (B:X):(2:Z)^B≠0:=by have:(0:Z)<2^B:=lm ab;omega
def Yk {B t:X} (h:B=65536) (e:bh c≠2047) (d:aP c=Y j) (k:t+52<=B) (a:2^(B-t)<=j.natAbs):fW (B-(t+52)) j:=by rw[o9 e] at d;cases d;have i:=E4 e;have g:=Kp c;refine(fW.shl _ _).mono ?_;rw[i7] at a;have f:(kK c).natAbs<2^53:=fJ.1 g;have b:2^(B-t)<2^53*2^(ly c+65536).toNat:=Nat.lt_of_le_of_lt a (Nat.mul_lt_mul_of_pos_right f (iV _));rw[<-hy] at b;have:=(Nat.pow_lt_pow_iff_right ab).1 b;omega
def Yj {B:X} (d:B=65536) (b:bh j≠2047) (a:aP j=Y c):fW (B-1074) c:=by rw[o9 b] at a;cases a;have e:=E4 b;exact(fW.shl _ _).mono aa
def YQ (c:2^(b+1)<=2*a):2^b<=a:=by rw[nX] at c;omega
def VC (a b:Z):b.natAbs<=a.natAbs+(a-b).natAbs/\a.natAbs<=b.natAbs+(a-b).natAbs:=by omega
def aeI {e:Z} {B d b:X} (r:2^(B-d)<=w.natAbs) (l:j.natAbs<=2^(B+b)) (A:d+b+2<=1075) (z:d+b+1<=B) (h:(e*j-w*2^B).natAbs*2^1075<=w.natAbs*2^B*2^1022+j.natAbs*2^B):2^(B-(d+b+1))<=e.natAbs/\e.natAbs*j.natAbs<=2*(w.natAbs*2^B):=by obtain⟨a,q⟩:∃a:X,a=1022:=⟨_,bn⟩;rw[(aa:(1075:X)=a+53),<-q] at h;have i:=gj (2^B) r;have k:=gj (2^B) l;rw[<-hy] at i k;have n:4*(j.natAbs*2^B)<=w.natAbs*2^B*2^(a+53):=(by refine cO (xd 4 k) (cO ?_ (gj _ i));rw[<-hy,(ab:(4:X)=2^2),<-hy];exact BQ _ _ aa);have o:=VC (e*j) (w*2^B);rw[i7,lj] at o;generalize(e*j-w*2^B).natAbs=f at*;generalize w.natAbs*2^B=g at*;generalize j.natAbs*2^B=v at*;have s:=iV a;rw[hy,<-kz] at h n;have x:2*f<=g:=(by refine Ht (c:=2^a) ?_ s;rw[kz];generalize f*2^a=t at*;generalize g*2^a=u at*;omega);refine⟨aqQ λm=>?_,aa⟩;have p:e.natAbs*j.natAbs<2^(B-(d+b+1))*2^(B+b):=Nat.mul_lt_mul_of_lt_of_le m l (iV _);rw[<-hy] at p;have y:2^(B-(d+b+1)+(B+b))<=e.natAbs*j.natAbs:=(by refine YQ ?_;rw[(aa:B-(d+b+1)+(B+b)+1=B-d+B)];omega);omega
section
variable {A:X->X->eA} {G:eu} {o:ala} {n J:X}
variable {B b:X}
end
end
section
def aS (A e k c:X) (b:eA):Prop:=∃a,b=Y a/\fW (A-e) a/\a.natAbs<=c*2^(A+k)
section
variable {A e k c B D C:X} {a b:eA}
theorem aS.rng (g:A=65536) (i:k<=60000) (h:c<1048576) (a:j.natAbs<=c*2^(A+k)):gz j:=by have e:=jU a;have b:aF c<=20:=fJ.2 aa;have d:aF (2^(A+k))<=A+k+1:=fJ.2 (yN _ _ aa);have f:=xA b d;grind [gz]
theorem aS.mono (b:aS A e k c a) (i:e<=B) (j:k<=D) (g:c<=C):aS A B D C a:=by obtain⟨h,rfl,d,f⟩:=b;exact⟨h,bn,d.mono aa,cO f (nr g (BQ _ _ aa))⟩
theorem aS.zero:aS A e k c (Y 0):=⟨0,bn,fW.zero _,eJ _⟩
def aS.neg (b:aS A e k c a):aS A e k c (c5 a):=by obtain⟨f,rfl,d,g⟩:=b;exact⟨-f,bn,d.neg,aa⟩
theorem aS.add (m:A=65536) (o:k<=60000) (j:aS A e k c a) (h:aS A e k C b) (n:c+C<1048576):aS A e k (c+C) (cM a b)/\cM a b=Y (a.getD 0+b.getD 0):=by obtain⟨d,rfl,l,q⟩:=j;obtain⟨f,rfl,i,p⟩:=h;have g:(d+f).natAbs<=(c+C)*2^(A+k):=(by grind);have e:cM (Y d) (Y f)=Y (d+f):=(by show n9 (d+f)=_;unfold n9;rw[au (aS.rng m o n g)]);exact⟨⟨_,e,l.add i,g⟩,e⟩
theorem aS.mul (q:A=65536) (o:aS A e k c a) (m:aS A B D C b) (v:e+B<=60000) (s:k+D<=60000) (r:c*C<1048576):aS A (e+B) (k+D) (c*C) (bk a b)/\∃d f l,a=Y d/\b=Y f/\bk a b=Y l/\l*2^A=d*f:=by obtain⟨d,rfl,⟨g,t⟩,p⟩:=o;obtain⟨f,rfl,⟨h,u⟩,n⟩:=m;have al:g*h*2^(A-(e+B))*2^A=d*f:=(by rw[t,u,jb (g*h),<-p3,(aa:A-(e+B)+A=(A-e)+(A-B)),p3];grind);have i:(g*h*2^(A-(e+B))).natAbs<=c*C*2^(A+(k+D)):=(by refine Ht (c:=2^A) ?_ (iV A);rw[<-i7,al,lj];refine cO (nr p n) (amT ?_);grind);have j:bk (Y d) (Y f)=Y (g*h*2^(A-(e+B))):=(by refine QS ?_ (aS.rng q s r i);grind);exact⟨⟨_,j,fW.shl _ _,i⟩,d,f,_,bn,bn,j,al⟩
def aS.ko (c:A=65536) (a:bh j≠2047):aS A 1074 1024 1 (aP j):=by obtain⟨e,b⟩:=F2 a;refine⟨e,b,Yj c a b,?_⟩;rw[o9 a] at b;obtain rfl:=gC b;have f:=E4 a;have d:(kK j).natAbs<2^53:=fJ.1 (Kp j);rw[i7,h3];refine cO (gj _ (Nat.le_of_lt d)) ?_;rw[<-hy];exact BQ _ _ aa
def aS.val (h:aS A e k c a):a=Y (a.getD 0):=by obtain⟨b,rfl,_⟩:=h;rfl
end
end
section
def iQ (a c b:Z):eA:=bk (bk (aP a) (aP c)) (aP b)
section
variable {A c:X}
def aS.iQ (a:A=65536) {b d c:Z} (e:bh b≠2047) (g:bh d≠2047) (f:bh c≠2047):aS A 3222 3072 1 (iQ b d c):=
 (aS.mul a (aS.mul a (aS.ko a e) (aS.ko a g) ab ab ab).1 (aS.ko a f) ab ab ab).1
def aS.sub (g:A=65536) {a:eA} (d:aS A 3222 3072 c O) (b:aS A 3222 3072 1 a) (h:c+1<1048576):aS A 3222 3072 (c+1) (cM O (c5 a))/\cM O (c5 a)=Y (O.getD 0-a.getD 0):=by obtain⟨e,f⟩:=aS.add g ab d b.neg h;refine⟨e,f.trans ?_⟩;obtain⟨i,rfl,_⟩:=b;rfl
def aS.agD (a:A=65536) {f b d e:eA} (g:aS A 3222 3072 c f) (h:aS A 3222 3072 1 O) (i:aS A 3222 3072 1 b) (j:aS A 3222 3072 1 d) (k:aS A 3222 3072 1 e) (D:c+4<1048576):cM (cM (cM (cM f (c5 O)) (c5 b)) (c5 d)) (c5 e)=cM f (c5 (cM (cM (cM O b) d) e))/\aS A 3222 3072 (c+4) (cM f (c5 (cM (cM (cM O b) d) e))):=by obtain⟨m,p⟩:=aS.sub a g h aa;obtain⟨n,q⟩:=aS.sub a m i aa;obtain⟨o,r⟩:=aS.sub a n j aa;obtain⟨C,s⟩:=aS.sub a o k aa;obtain⟨t,x⟩:=aS.add a ab h i ab;obtain⟨u,y⟩:=aS.add a ab t j ab;obtain⟨v,z⟩:=aS.add a ab u k ab;obtain⟨w,B⟩:=aS.add a ab g v.neg aa;refine⟨?_,w⟩;rw[s,B,r,q,p,z,y,x];obtain⟨l,rfl,_⟩:=g;show Y (l-O.getD 0-b.getD 0-d.getD 0-e.getD 0)=Y (l+-(O.getD 0+b.getD 0+d.getD 0+e.getD 0));congr 1;omega
end
structure a9 where
 rows:ak9
 full:X
 s:X->X->eA
def a9.ba (c:a9) (a b:X):Z:=kx (c.s a b) 0
def a9.av (c:a9) (a b:X):Z:=((aP (c.ba a b)).getD 0).natAbs
def a9.fin (a:a9) (c:X):Prop:=∀b∈a.rows,bh (a.ba b c)≠2047
instance(b:a9) (a:X):alQ (b.fin a):=aqR ..
def hV (b:X->Z) (c:X):ak9->Z×ak5->Z×ak5
 |[],a=>a
 |i::d,a=>hV b c d (if i=c then a else if a.2=bo\/a.1<b i then(b i,Y i) else a)
def a9.hp (b:a9) (a:X):Z×ak5:=hV (λc=>b.av c a) a b.rows (0,bo)
def a9.ik (a:a9):ak9->bu ak9
 |[]=>Y []
 |p::c=>if¬a.fin p then bo else
  if(a.hp p).1=0\/41*(a.hp p).1<=64*a.av p p then Y [p] else
  match(a.hp p).2 with
  |none=>Y [p]
  |some b=>if b∉a.rows.take a.full then a.ik c else if¬a.fin b then bo else
   if 41*((a.hp p).1*(a.hp p).1)<=64*(a.av p p*(a.hp b).1) then Y [p] else
   if 41*(a.hp b).1<=64*a.av b b then Y [b] else Y [p,b]
def a9.choose (a:a9):bu ak9:=a.ik (a.rows.take a.full)
structure aK where
 a1:ak9
 d:ala
 rows:ak9
 l:bm (X->Z)
def hU (a:ala):eA:=cM (bk (aP (a.getD 0 0)) (aP (a.getD 2 0))) (c5 (bk (aP (a.getD 1 0)) (aP (a.getD 1 0))))
def a9.kb (a:a9):ak9->ala
 |[p]=>[a.ba p p]
 |[p,r]=>[a.ba p p,a.ba r p,a.ba r r]
 |_=>[]
def a9.lc (a:a9):ak9->bm (X->Z)
 |[p]=>[λb=>if kt (a.ba p p)=0 then 0 else fi (a.s b p) (aP (a.ba p p)) 0]
 |[p,r]=>[λb=>fi (cM (bk (a.s b p) (aP (a.ba r r))) (c5 (bk (a.s b r) (aP (a.ba r p))))) (hU (a.kb [p,r])) 0,λb=>fi (cM (bk (a.s b r) (aP (a.ba p p))) (c5 (bk (a.s b p) (aP (a.ba r p))))) (hU (a.kb [p,r])) 0]
 |_=>[]
def yk (e:ala) (f:bm (X->Z)) (b d:X):eA:=match e,f with
 |[d0],[a]=>iQ (a b) d0 (a d)
 |[d0,d1,d2],[a,c]=>cM (cM (cM (iQ (a b) d0 (a d)) (iQ (a b) d1 (c d))) (iQ (c b) d1 (a d))) (iQ (c b) d2 (c d))
 |_,_=>Y 0
def a9.elim (a:a9) (c:ak9):a9:=⟨a.rows.filter λb=>br (b∉c),a.full-c.length,λb d=>cM (a.s b d) (c5 (yk (a.kb c) (a.lc c) b d))⟩
def a9.de (b:a9) (a:ak9):aK:=⟨a,b.kb a,b.rows.filter λc=>br (c∉a),b.lc a⟩
def aK.fin (a:aK):Prop:=∀b∈a.l,∀c∈a.rows,bh (b c)≠2047
instance(a:aK):alQ a.fin:=aqR ..
def a9.run:X->a9->bu (a9×bm aK)
 |0,a=>Y (a,[])
 |n+1,a=>match a.choose with
  |none=>bo
  |some []=>Y (a,[])
  |some b=>if(a.de b).fin then(a9.run n (a.elim b)).map λc=>(c.1,a.de b::c.2) else bo
end
def a9.okd (a:a9):Prop:=∀b∈a.rows,∀c∈a.rows,c4 (a.s b c)
def a9.Nm (c:a9) (d:bh (c.ba a b)≠2047):zQ (aP (c.ba a b))=Y (c.av a b):=by obtain⟨f,e⟩:=F2 d;unfold a9.av;rw[e];rfl
theorem FA {n:Z} (c:n.natAbs<1024) (d:a=65536):jm n=Y (n*2^a):=by
 have e:aF n.natAbs<=10:=fJ.2 aa;unfold jm;rw[BB (v:=n*2^a) ab (by rw[(aa:((0:Z)+65536).toNat=a)])];unfold n9;rw[au];unfold gz;rw[i7];rcases oK n.natAbs with b|b
 ·grind
 grind [rU]
theorem QU (b:c.natAbs<1024) (e:gz (c*j)):bk (jm c) (Y j)=Y (c*j):=by obtain⟨a,d⟩:∃a:X,a=65536:=⟨_,bn⟩;rw[FA b d];grind [anO,alM,QS]
def Pw (d:X->Z) (c:X):∀(a b:ak9) (e:Z×ak5),hV d c (a++b) e=hV d c b (hV d c a e)
 |[],_,_=>rfl
 |i::a,b,e=>Pw d c a b _
def zW:ak5->Z
 |none=>-1
 |some a=>a
theorem fW.VB (b:fW a c):fW a (c.natAbs:Z):=by
 rcases Int.natAbs_eq c with d|d
 ·grind
 have:=b.neg;grind
def aS.abs (d:aS a g v b (Y c)):aS a g v b (Y (c.natAbs:Z)):=by obtain⟨i,f,e,h⟩:=d;cases f;exact⟨_,bn,fW.VB e,aa⟩
def a9.zX (f:a=65536) (e:a9) (c:bh (e.ba b g)≠2047):aS a 1074 1024 1 (Y (e.av b g)):=by have:=aS.ko f c;obtain⟨h,d⟩:=F2 c;rw[d] at this;unfold a9.av;rw[d];exact this.abs
theorem Jz {a:X} {e:X->Z} {h:X}:∀{c:ak9} {b:Z×ak5},(∀i∈c,aS a 1074 1024 1 (Y (e i)))->aS a 1074 1024 1 (Y b.1)->aS a 1074 1024 1 (Y (hV e h c b).1)
 |[],_,_,d=>d
 |i::c,b,f,d=>by rw[hV];refine Jz (λg j=>f g (by grind)) ?_;grind
def a9.PA (e:a=65536) (c:a9) (d:c.fin b):aS a 1074 1024 1 (Y (c.hp b).1):=Jz (λg f=>c.zX e (d g f)) aS.zero
theorem aS.cC (f:a=65536) (d:aS a v g b (Y c)) (i:g<=60000) (h:b<1048576):gz c:=by obtain⟨k,j,_,e⟩:=d;grind [aS.rng]
def aS.y4 (f:g=65536) (d:aS g v a b (Y w)) (h:a<=60000) (m:b<=1024) (i:j.natAbs<=100):gz (j*w):=by obtain⟨n,l,_,e⟩:=d;cases l;refine aS.rng (c:=102400) f h ab (k:=a) ?_;rw[lj];refine cO (nr i e) ?_;rw[<-kz];exact gj _ aa
theorem Pz {e:X->Z} {d:X}:∀{c:ak9} {a:Z×ak5},(hV e d c a).2=bo->a.2=bo/\(hV e d c a).1=a.1
 |[],_,b=>⟨b,bn⟩
 |i::c,a,b=>by rw[hV] at b|-;obtain⟨f,g⟩:=Pz b;grind
theorem QT {b d e:Z} (f:c*2^a=w*b) (g:j*2^a=d*e):41*c<=64*j↔41*(w*b)<=64*(d*e):=by have h:(0:Z)<2^a:=lm ab;rw[<-f,<-g,<-jb,<-jb];simp_all
def aeN (b:fh j) (a:fh c) (d:fh w):IS ([j,c,w],())=Y (aA (hU [j,c,w]),()):=by unfold IS;refine ai (y:=j) rfl (ai (y:=w) rfl (ai (Sk b d) (ai (y:=c) rfl (ai (y:=c) rfl (ai (Sk a a) ?_)))));refine ai (afm (oi _ _) (oi _ _)) rfl
def a9.y0 (c:a9) (a b:X):fh (c.ba a b):=GB _ _
def lf (a b:X->Rat):X->Rat
 |0=>0
 |n+1=>lf a b n+a n*b n
def Qi {c d e f:X->Rat}:∀{n},(∀a,a<n->c a=d a/\e a=f a)->lf c e n=lf d f n
 |0,_=>rfl
 |n+1,b=>by rw[lf,lf,Qi λa g=>b a aa,(b n aa).1,(b n aa).2]
theorem Qk {d c:X->Rat}:∀{n},(∀a,a<n->c a=0)->lf d c n=0
 |0,_=>rfl
 |n+1,b=>by rw[lf,Qk λa e=>b a aa,b n aa];grind
theorem Qj (b c a:X->Rat) (d:Rat):∀n,lf (λe=>b e-d*c e) a n=lf b a n-d*lf c a n
 |0=>by simp only[lf];grind
 |n+1=>by simp only[lf];rw[Qj b c a d n];grind
theorem PH:∀(n:X) (g:bm (X->Rat)),g.length<n->∃c:X->Rat,(∃a,a<n/\c a≠0)/\∀b∈g,lf b c n=0
 |0,_,h=>absurd h aa
 |n+1,g,h=>by
  by_cases l:∀b∈g,b n=0
  ·refine⟨λa=>if a=n then 1 else 0,⟨n,aa,ac⟩,λb e=>?_⟩;rw[lf,l b e,Qk (λa k=>ar aa)];grind
  obtain⟨d,e⟩:=Classical.not_forall.1 l;obtain⟨e,q⟩:=Classical.not_imp.1 e;obtain⟨i,j,rfl⟩:=w7 e;obtain⟨c,⟨a,k,p⟩,o⟩:=PH n ((i++j).map λb a=>b a-b n/d n*d a) (by simp at h|-;omega);have m:∀b:X->Rat,lf b (λa=>if a=n then-(lf d c n)/d n else c a) n=lf b c n:=λb=>Qi λa k=>⟨bn,ar aa⟩;refine⟨λa=>if a=n then-(lf d c n)/d n else c a,⟨a,aa,?_⟩,λb f=>?_⟩
  ·show(if a=n then _ else c a)≠0;rw[ar aa];exact p
  rw[lf,m,au bn];have f:b=d\/b∈i++j:=(by simp only[g0,fF] at f|-;grind);rcases f with rfl|f
  ·grind
  have:=o _ (eS.2 ⟨b,f,bn⟩);rw[Qj] at this;grind
def iq (a:X) (b:X->Rat):bm (Rat×(X->Rat))->Rat
 |[]=>0
 |r::c=>r.1*(lf r.2 b a*lf r.2 b a)+iq a b c
def kL (a:bm (Rat×(X->Rat))):X:=(a.filter λb=>br (0<b.1)).length
theorem LL (c:Rat):0<=c*c:=by
 rcases Std.le_total (a:=(0:Rat)) (b:=c) with d|d
 ·exact aoB d d
 have:0<=-c:=(by grind);have:=aoB this this;grind
theorem St {n:X} {x:X->Rat}:∀{R:bm (Rat×(X->Rat))},(∀r∈R,0<r.1->lf r.2 x n=0)->iq n x R<=0
 |[],_=>by simp only[iq];grind
 |r::R,a=>by
  have d:=St (n:=n) (x:=x) (R:=R) λr c=>a r (by simp[c]);have e:r.1*(lf r.2 x n*lf r.2 x n)<=0:=by
   by_cases b:0<r.1
   ·rw[a r ac b];grind
   have:=aoB (show 0<=-r.1 by grind) (LL (lf r.2 x n));grind
  rw[iq];grind
theorem Ss {n:X} {x:X->Rat}:∀{R:bm (Rat×(X->Rat))},(∀r∈R,¬0<r.1->lf r.2 x n=0)->0<=iq n x R/\(iq n x R<=0->∀r∈R,lf r.2 x n=0)
 |[],_=>by simp only[iq];exact⟨by grind,λ_ r d=>by simp at d⟩
 |r::R,e=>by
  obtain⟨l,f⟩:=Ss (n:=n) (x:=x) (R:=R) λr d=>e r (by simp[d]);rw[iq];by_cases i:0<r.1
  ·have c:=aoB (show 0<=r.1 by grind) (LL (lf r.2 x n));refine⟨by grind,λk b a=>?_⟩;rcases fF.1 a with rfl|a
   ·have j:b.1*(lf b.2 x n*lf b.2 x n)=0:=(by grind);rcases s2.1 j with g|g
    ·grind
    rcases s2.1 g with h|h<;>exact h
   exact f (by grind) b a
  have c:=e r ac i;rw[c];refine⟨by grind,λk b a=>?_⟩;rcases fF.1 a with rfl|a
  ·exact c
  exact f (by grind) b a
def LX {n:X} {R S:bm (Rat×(X->Rat))} (h:R.length=n) (g:∀b,(∀a∈R,lf a.2 b n=0)->∀d,d<n->b d=0) (j:∀b,iq n b R=iq n b S):kL R<=kL S:=by
 refine aqQ λi=>?_;have q:(R.filter λa=>br (0<a.1)).length+(R.filter λa=>!br (0<a.1)).length=n:=by
  rw[<-h];clear i g j h
  induction R with
  |nil=>rfl
  |cons a R r=>
   rw[mh,mh];by_cases c:0<a.1
   ·simp[c];omega
   simp[c];omega
 obtain⟨b,⟨d,o,p⟩,k⟩:=PH n ((R.filter λa=>!br (0<a.1)).map (·.2)++(S.filter λa=>br (0<a.1)).map (·.2)) (by
  unfold kL at i;simp only[hI,dh];omega)
 have l:∀a∈R,¬0<a.1->lf a.2 b n=0:=λa e c=>k _ (g0.2 (.inl (eS.2 ⟨a,h1.2 ⟨e,by simpa using c⟩,bn⟩)));have m:∀a∈S,0<a.1->lf a.2 b n=0:=λa e c=>k _ (g0.2 (.inr (eS.2 ⟨a,h1.2 ⟨e,by simpa using c⟩,bn⟩)));have f:=St m;rw[<-j b] at f;exact p (g b ((Ss l).2 f) d o)
def db (a:X->Rat):ak9->Rat
 |[]=>0
 |i::b=>a i+db a b
theorem ov {b c:X->Rat}:∀{a:ak9},(∀i∈a,b i=c i)->db b a=db c a
 |[],_=>rfl
 |i::a,d=>by rw[db,db,d i ac,ov λf e=>d f (by simp[e])]
theorem GJ (b c:X->Rat):∀a,db (λi=>b i+c i) a=db b a+db c a
 |[]=>by simp only[db];grind
 |i::a=>by simp only[db];rw[GJ b c a];grind
theorem GK (c:Rat) (b:X->Rat):∀a,db (λi=>c*b i) a=c*db b a
 |[]=>by simp only[db];grind
 |i::a=>by simp only[db];rw[GK c b a];grind
theorem y5 {b:X->Rat}:∀{a:ak9},(∀i∈a,b i=0)->db b a=0
 |[],_=>rfl
 |i::a,c=>by rw[db,c i ac,y5 λe d=>c e (by simp[d])];grind
theorem afW (b:X->Rat) (a c:ak9):db b (a++c)=db b a+db b c:=by
 induction a with
 |nil=>simp only[db,hx];grind
 |cons e a d=>simp only[db,kT,d];grind
def eR (c:X) (b:ak9):ak9:=b.filter λa=>br (a≠c)
theorem m9:a∈eR b f↔a∈f/\a≠b:=by simp[eR]
def wk {p:X} (a:f.Nodup):(eR p f).Nodup:=a.sublist uS
theorem Hd (c:a∉f):eR a f=f:=mU.2 λe d=>alg λb=>c (b▸d)
def uI {p:X}:∀{a:ak9},a.Nodup->p∈a->(eR p a).length+1=a.length
 |[],_,c=>by simp at c
 |i::a,d,c=>by
  rw[j4] at d;by_cases b:i=p
  ·subst b;have:eR i (i::a)=eR i a:=(by simp[eR]);rw[this,Hd d.1,iH]
  have:eR p (i::a)=i::eR p a:=(by simp[eR,b]);rw[this,iH,iH,uI d.2 (by simpa[Ne.symm b] using c)]
theorem rh (c:X->Rat) {b:X}:∀{a:ak9},a.Nodup->b∈a->db c a=c b+db c (eR b a)
 |[],_,e=>by simp at e
 |i::a,f,e=>by
  rw[j4] at f;by_cases d:i=b
  ·subst d;have:eR i (i::a)=eR i a:=(by simp[eR]);rw[this,Hd f.1,db]
  have:eR b (i::a)=i::eR b a:=(by simp[eR,d]);rw[this,db,db,rh c f.2 (by simpa[Ne.symm d] using e)];grind
def l6 (e:X->X->Rat) (c:ak9) (d:X->Rat):Rat:=db (λa=>d a*db (λb=>e a b*d b) c) c
def Sr {c:X->X->Rat} (e:∀a∈f,∀b∈f,y a b=c a b) (d:X->Rat):l6 y f d=l6 c f d:=
 ov λa g=>by rw[ov λb h=>by rw[e a g b h]]
theorem Lg (h:f.Nodup) (e:a∈f) (j:∀c∈f,∀b∈f,y c b=y b c) (d:X->Rat):l6 y f d=y a a*(d a*d a)+2*(d a*db (λb=>y a b*d b) (eR a f))+l6 y (eR a f) d:=by unfold l6;rw[rh _ h e,rh _ h e];have i:db (λc=>d c*db (λb=>y c b*d b) f) (eR a f)=db (λc=>d a*(y a c*d c)+d c*db (λb=>y c b*d b) (eR a f)) (eR a f):=(by refine ov λc g=>?_;obtain⟨g,_⟩:=m9.1 g;rw[rh (λb=>y c b*d b) h e,j c g a e];grind);rw[i,GJ,GK];grind
theorem Lf {a:X->X->Rat} (h:Rat) (e g:X->Rat) (d:X->Rat):l6 (λb c=>a b c-h*(e b*g c)) f d=l6 a f d-h*(db (λb=>e b*d b) f*db (λb=>g b*d b) f):=by
 unfold l6;have i:∀b,db (λc=>(a b c-h*(e b*g c))*d c) f=db (λc=>a b c*d c) f+(-h*e b)*db (λc=>g c*d c) f:=λb=>(by rw[<-GK,<-GJ];exact ov λc _=>by grind);have j:db (λb=>d b*db (λc=>(a b c-h*(e b*g c))*d c) f) f=db (λb=>d b*db (λc=>a b c*d c) f+(-h*db (λc=>g c*d c) f)*(e b*d b)) f:=
  ov λb _=>by rw[i];grind
 rw[j,GJ,GK];grind
def p5 (b:X->Rat) (c:ak9) (a:X):Rat:=if a∈c then b a else 0
theorem sj (b c a:X->Rat) (d:Rat):∀n,lf (λe=>b e+d*c e) a n=lf b a n+d*lf c a n
 |0=>by simp only[lf];grind
 |n+1=>by simp only[lf];rw[sj b c a d n];grind
theorem J5 {e:X->Rat} {a:X} (d:Rat):∀{n},lf (λf=>if f=a then d else 0) e n=if a<n then d*e a else 0
 |0=>by simp[lf]
 |n+1=>by
  rw[lf,J5 (n:=n)];by_cases c:a<n
  ·rw[au c,ar aa,au aa];grind
  rw[ar c];by_cases b:n=a
  ·subst b;rw[au bn,au aa];grind
  rw[ar b,ar aa];grind
theorem v5 {c i:X->Rat} {h:X}:∀{b:ak9},b.Nodup->(∀a∈b,a<h)->lf (p5 c b) i h=db (λa=>c a*i a) b
 |[],_,_=>by
  rw[db];have:∀f,lf (p5 c []) i f=0:=λf=>by
   induction f with
   |zero=>rfl
   |succ f m=>rw[lf,m];simp[p5];grind
  exact this h
 |p::b,g,j=>by
  rw[j4] at g;have k:p5 c (p::b)=λa=>(if a=p then c p else 0)+1*p5 c b a:=by
   funext a;unfold p5;by_cases d:a=p
   ·subst d;rw[au ac,au bn,ar g.1];grind
   by_cases e:a∈b
   ·rw[au (by simp[e]),ar d,au e];grind
   rw[ar (by simp[d,e]),ar d,ar e];grind
  rw[k,sj,J5,au (j p ac),v5 g.2 λa l=>j a (by simp[l]),db];grind
inductive mQ:(X->X->Rat)->ak9->bm (Rat×(X->Rat))->Prop
 |done {a:X->X->Rat} {l:ak9} (h:∀i∈l,∀j∈l,a i j=0):mQ a l (l.map λi=>(0,λj=>if j=i then 1 else 0))
 |one {a b:X->X->Rat} {l:ak9} {R:bm (Rat×(X->Rat))} {p:X} (YX:p∈l) (h:a p p≠0) (Ft:∀i∈eR p l,∀j∈eR p l,b i j=a i j-1/a p p*(a i p*a p j)) (YO:mQ b (eR p l) R):mQ a l ((1/a p p,p5 (a p) l)::R)
 |two {a b:X->X->Rat} {l:ak9} {R:bm (Rat×(X->Rat))} {p q:X} (YX:p∈l) (ah7:q∈l) (ah6:p≠q) (h:a p q≠0) (Bg:a p p=0) (PC:a q q=0) (Ft:∀i∈eR q (eR p l),∀j∈eR q (eR p l),b i j=a i j-1/a p q*(a i p*a q j)-1/a p q*(a i q*a p j)) (YO:mQ b (eR q (eR p l)) R):mQ a l ((1/(2*a p q),λi=>p5 (a p) l i+1*p5 (a q) l i)::(-(1/(2*a p q)),λi=>p5 (a p) l i+-1*p5 (a q) l i)::R)
theorem mQ.ok (q:mQ y f S) {n:X} (j:f.Nodup) (o:∀c∈f,c<n) (l:∀c∈f,∀b∈f,y c b=y b c):S.length=f.length/\∀g,iq n g S=l6 y f g/\((∀B∈S,lf B.2 g n=0)->∀c∈f,g c=0):=by
 induction q with
 |@done y f q=>
  refine⟨ac,λg=>⟨?_,λr c h=>?_⟩⟩
  ·have t:l6 y f g=0:=y5 λc h=>(by rw[y5 λb i=>by rw[q c h b i];grind];grind);rw[t];clear t q j l o
   induction f with
   |nil=>rfl
   |cons c f A=>rw[gL,iq,A];grind
  have:=r _ (eS.2 ⟨c,h,bn⟩);rw[J5,au (o c h)] at this;grind
 |@one y L f S d m q u P A=>
  have k:∀c∈eR d f,c∈f:=λc h=>(m9.1 h).1;obtain⟨i1,F⟩:=A (wk j) (λc h=>o c (k c h)) λc h b i=>(by rw[u c h b i,u b i c h,l c (k c h) b (k b i),l c (k c h) d m,l b (k b i) d m];grind);refine⟨by rw[iH,i1,uI j m],λg=>?_⟩;obtain⟨G,H⟩:=F g;have al:db (λb=>y d b*g b) f=y d d*g d+db (λb=>y d b*g b) (eR d f):=rh _ j m;have C:db (λb=>y b d*g b) (eR d f)=db (λb=>y d b*g b) (eR d f):=ov λb i=>(by rw[l b (k b i) d m]);constructor
  ·rw[iq,G,v5 j o,Lg j m l,Sr u,Lf (1/y d d) (λc=>y c d) (λb=>y d b)];rw[C,al];generalize db (λb=>y d b*g b) (eR d f)=am;grind
  intro r;have v:=H λB E=>r B (by simp[E]);have t:=r _ (jd ..);rw[v5 j o,al,y5 λb i=>by rw[v b i];grind] at t;intro c h;by_cases s:c=d
  ·subst s;rcases s2.1 (show y c c*g c=0 by grind) with D|D
   ·exact absurd D q
   exact D
  exact v c (m9.2 ⟨h,s⟩)
 |@two y L f S d e m x Q q t J u P A=>
  have z:e∈eR d f:=m9.2 ⟨x,λs=>Q s.symm⟩;have k:∀c∈eR e (eR d f),c∈f:=λc h=>(m9.1 (m9.1 h).1).1;have K:∀c∈eR d f,c∈f:=λc h=>(m9.1 h).1;have w:=wk (p:=d) j;obtain⟨i1,F⟩:=A (wk w) (λc h=>o c (k c h)) λc h b i=>(by rw[u c h b i,u b i c h,l c (k c h) b (k b i),l c (k c h) d m,l b (k b i) d m,l c (k c h) e x,l b (k b i) e x];grind);have av:=uI j m;have a0:=uI w z;refine⟨by rw[iH,iH,i1];omega,λg=>?_⟩;obtain⟨G,H⟩:=F g;have R:y e d=y d e:=l e x d m;have I:db (λb=>y d b*g b) f=y d e*g e+db (λb=>y d b*g b) (eR e (eR d f)):=(by rw[rh _ j m,rh _ w z,t];grind);have f2:db (λb=>y e b*g b) f=y d e*g d+db (λb=>y e b*g b) (eR e (eR d f)):=(by rw[rh _ j m,rh _ w z,J,R];grind);have M:db (λb=>y d b*g b) (eR d f)=y d e*g e+db (λb=>y d b*g b) (eR e (eR d f)):=rh _ w z;have N:db (λb=>y b d*g b) (eR e (eR d f))=db (λb=>y d b*g b) (eR e (eR d f)):=ov λb i=>(by rw[l b (k b i) d m]);have O:db (λb=>y b e*g b) (eR e (eR d f))=db (λb=>y e b*g b) (eR e (eR d f)):=ov λb i=>(by rw[l b (k b i) e x]);constructor
  ·rw[iq,iq,G,sj,sj,v5 j o,v5 j o,Lg j m l,Lg w z (λc h b i=>l c (K c h) b (K b i)),Sr u];rw[Lf (a:=λc b=>y c b-1/y d e*(y c d*y e b)) (1/y d e) (λc=>y c e) (λb=>y d b),Lf (1/y d e) (λc=>y c d) (λb=>y e b)];rw[I,f2,M,N,O,t,J];generalize db (λb=>y d b*g b) (eR e (eR d f))=am;generalize db (λb=>y e b*g b) (eR e (eR d f))=an;generalize l6 y (eR e (eR d f)) g=ap;grind
  intro r;have v:=H λB E=>r B (by simp[E]);have T:=r _ (jd ..);have U:=r _ (gx _ (jd ..));rw[sj,v5 j o,v5 j o,I,f2,y5 (λb i=>by rw[v b i];grind),y5 (λb i=>by rw[v b i];grind)] at T U;have V:y d e*g d=0:=(by grind);have ad:y d e*g e=0:=(by grind);intro c h;by_cases s:c=d
  ·subst s;exact(s2.1 V).resolve_left q
  by_cases C:c=e
  ·subst C;exact(s2.1 ad).resolve_left q
  exact v c (m9.2 ⟨m9.2 ⟨h,s⟩,C⟩)
theorem Py {e:X->Z} {b:X}:∀{d:ak9} {a:Z×ak5},a.2≠Y b->(hV e b d a).2≠Y b
 |[],_,c=>c
 |i::d,a,c=>by rw[hV];refine Py ?_;grind
def uM (c b:ak9):Prop:=b=[]\/(∃a,b=[a]/\a∈c)\/∃a d,b=[a,d]/\a∈c/\d∈c/\a≠d
theorem NQ {c:a9}:∀{g d:ak9},(∀p∈g,p∈c.rows.take c.full)->c.ik g=Y d->uM (c.rows.take c.full) d
 |[],d,_,b=>by rw[a9.ik] at b;cases b;exact .inl bn
 |p::g,d,h,b=>by
  have f:=h p ac;rw[a9.ik] at b;split at b
  ·cases b
  split at b
  ·cases b;exact .inr (.inl ⟨p,bn,f⟩)
  split at b
  ·cases b;exact .inr (.inl ⟨p,bn,f⟩)
  rename_i i k;split at b
  ·exact NQ (λl m=>h l (by grind)) b
  rename_i e;have e:=aqS.1 e;split at b
  ·cases b
  split at b
  ·cases b;exact .inr (.inl ⟨p,bn,f⟩)
  split at b
  ·cases b;exact .inr (.inl ⟨i,bn,e⟩)
  cases b;refine .inr (.inr ⟨p,i,bn,f,e,λj=>?_⟩);subst j;exact Py (a:=(0,bo)) ac k
structure lL (x:a9):Prop where
 okd:x.okd
 nd:x.rows.Nodup
 full:x.full<=x.rows.length
theorem yg {P:ak9}:∀{S:ak9},S.Nodup->P.Nodup->(∀a∈P,a∈S)->(S.filter λb=>br (b∉P)).length+P.length=S.length:=by
 induction P with
 |nil=>simp_all
 |cons a P h=>
  intro S d c e;rw[j4] at c;have j:=h (S:=eR a S) (wk d) c.2 λi g=>m9.2 ⟨e i (by grind),λf=>c.1 (f▸g)⟩;have k:=uI d (e a ac);have l:(eR a S).filter (λb=>br (b∉P))=S.filter λb=>br (b∉a::P):=(by unfold eR;rw[zA];grind);grind
theorem lL.elim {a:a9} (d:lL a) {b:ak9} (h:uM (a.rows.take a.full) b):lL (a.elim b) where
 okd:=λg _ l _=>pC _ _
 nd:=d.nd.sublist uS
 full:=by
  show a.full-b.length<=(a.rows.filter λg=>br (g∉b)).length;have k:∀{c},c∈a.rows.take a.full->c∈a.rows:=λe=>rG e;have f:b.Nodup/\∀c∈b,c∈a.rows:=by
   rcases h with rfl|⟨c,rfl,e⟩|⟨c,m,rfl,e,j,i⟩
   ·grind
   ·grind
   grind
  have:=yg d.nd f.1 f.2;have:=d.full;omega
theorem wH {b:a9} (d:b.choose=Y f) (e:0<f.length):a9.run (a+1) b=if(b.de f).fin then(a9.run a (b.elim f)).map (λc=>(c.1,b.de f::c.2)) else bo:=by grind [a9.run]
theorem GI {b:a9} (c:b.choose=bo):a9.run (a+1) b=bo:=by rw[a9.run,c]
theorem y3 {b:a9} (c:b.choose=Y []):a9.run (a+1) b=Y (b,[]):=by rw[a9.run,c]
def z7 {a:a9} (b:a.choose=Y f):uM (a.rows.take a.full) f:=NQ (λd c=>c) b
theorem uM.props (b:uM P f):f.Nodup/\∀a∈f,a∈P:=by
 rcases b with rfl|⟨a,rfl,c⟩|⟨a,g,rfl,c,e,d⟩
 ·grind
 ·grind
 grind
def Yb (b:∀e∈f,e∉P):(f.filter λd=>br (d∉P))=f:=
 mU.2 λa c=>alg (b a c)
theorem lL.Xx {a:a9} (e:lL a) (i:uM (a.rows.take a.full) f):(a.elim f).rows.take (a.elim f).full=((a.rows.take a.full).filter λb=>br (b∉f))/\(a.elim f).rows.drop (a.elim f).full=a.rows.drop a.full:=by obtain⟨l,g⟩:=i.props;have c:=e.nd;rw[<-j5 a.full a.rows,iI] at c;have k:=yg c.1 l g;have j:=e.full;rw[gu,hR j] at k;have al:(a.elim f).full=((a.rows.take a.full).filter λb=>br (b∉f)).length:=(by show a.full-f.length=_;omega);have o:(a.elim f).rows=((a.rows.take a.full).filter λb=>br (b∉f))++a.rows.drop a.full:=(by show(a.rows.filter λb=>br (b∉f))=_;have h:(a.rows.drop a.full).filter (λb=>br (b∉f))=a.rows.drop a.full:=Yb λd m n=>c.2.2 d (g d n) d m bn;exact(b3 (anE λb=>br (b∉f)) (j5 a.full a.rows).symm).trans ((oG ..).trans (by rw[h])));grind
theorem aef (d:P.Nodup) (c:f.Nodup) (e:∀b∈f,b∈P):(f++P.filter λa=>br (a∉f)).Perm P:=by grind
structure xf (S:ak9) (q:aK):Prop where
 nd:q.rows.Nodup
 sub:∀i∈q.rows,i∈S
 len:q.l.length=q.a1.length
 at1:q.a1.length=1\/q.a1.length=2
 dl:q.d.length=2*q.a1.length-1
 fin:q.fin
def lL.Sn {a:a9} (h:lL a) (c:uM (a.rows.take a.full) f) (e:0<f.length) (j:(a.de f).fin) {S:ak9} (i:∀d∈a.rows,d∈S):xf S (a.de f) where
 nd:=h.nd.sublist uS
 sub:=λd k=>i d (h1.1 k).1
 len:=by rcases c with rfl|⟨b,rfl,_⟩|⟨b,g,rfl,_⟩<;>rfl
 at1:=by
  rcases c with rfl|⟨b,rfl,_⟩|⟨b,g,rfl,_⟩
  ·cases e
  ·exact .inl bn
  exact .inr bn
 dl:=by
  rcases c with rfl|⟨b,rfl,_⟩|⟨b,g,rfl,_⟩
  ·cases e
  ·rfl
  rfl
 fin:=j
structure HC (x y:a9) (ps:bm aK):Prop where
 w:lL y
 rest:y.rows.drop y.full=x.rows.drop x.full
 perm:(ps.flatMap aK.a1++y.rows.take y.full).Perm (x.rows.take x.full)
 de:∀q∈ps,xf x.rows q
 sub:∀i∈y.rows,i∈x.rows
 done:y.choose=Y []
theorem Tc:∀{n:X} {a m:a9} {k:bm aK},lL a->a.full<n->a9.run n a=Y (m,k)->HC a m k
 |0,a,m,k,_,v,_=>by omega
 |n+1,a,m,k,g,v,d=>by
  match hc:a.choose with
  |none=>grind [GI]
  |some []=>
   rw[y3 hc] at d;cases d;exact⟨g,bn,anf _,λl f=>(by cases f),λb c=>c,hc⟩
  |some (
   j::h)=>
   rw[wH hc ac] at d;split at d
   case isFalse=>cases d
   rename_i u;have i:=z7 hc;obtain⟨x,q⟩:=i.props;cases p:a9.run n (a.elim (j::h)) with
   |none=>grind
   |some l=>
    obtain⟨s,y⟩:=l;rw[p] at d;cases d;have z:0<a.full:=(by have:=aqT (q j ac);grind);have e:=Tc (g.elim i) (aa:a.full-(h.length+1)<n) p;obtain⟨al,t⟩:=g.Xx i;have r:∀b∈(a.elim (j::h)).rows,b∈a.rows:=λb c=>(h1.1 c).1;refine⟨e.w,e.rest.trans t,?_,?_,λb c=>r b (e.sub b c),e.done⟩
    ·have o:=e.perm;rw[al] at o;show((j::h)++y.flatMap aK.a1++s.rows.take s.full).Perm _;rw[lQ];exact(aoh _ o).trans (aef (g.nd.sublist (anS ..)) x q)
    intro l f;rcases fF.1 f with rfl|f
    ·exact g.Sn i ac u λb c=>c
    have:=e.de l f;exact{this with sub:=λb c=>r b (this.sub b c)}
theorem WE {c:a9} (i:c.full=c.rows.length):∀{L:ak9},(∀p∈L,p∈c.rows)->c.ik L=Y []->L=[]
 |[],_,_=>rfl
 |p::L,k,d=>by
  exfalso;rw[a9.ik] at d;split at d
  ·cases d
  split at d
  ·cases d
  split at d
  ·cases d
  rename_i f h;have m:f∈c.rows.take c.full:=by
   rw[i,h2];have:∀{l:ak9} {a:Z×ak5},(∀b,a.2=Y b->b∈c.rows)->(∀b∈l,b∈c.rows)->∀b,(hV (λb=>c.av b p) p l a).2=Y b->b∈c.rows:=by
    intro l
    induction l with
    |nil=>intro a g _ b e;exact g b e
    |cons j l n=>
     grind [hV]
   exact this (l:=c.rows) (a:=(0,bo)) ac (λb e=>e) f h
  grind
theorem HC.whole {b a:a9} {h:bm aK} (c:HC b a h) (j:lL b) (g:b.full=b.rows.length):a.rows=[]/\a.full=0:=by have d:a.rows.drop a.full=[]:=(by rw[c.rest,g,List.drop_length]);have e:a.full=a.rows.length:=(by have:=List.drop_eq_nil_iff.1 d;have:=c.w.full;omega);have i:=WE e (L:=a.rows.take a.full) (λk f=>rG f) c.done;grind
theorem Y4 (j:d.length<=1000000) (g:d[a]?=Y c) (k:∀b,b<a->d[b]?≠Y c):AB (d,c,())=Y ((a:Z),()):=by
 obtain⟨l,i⟩:=al1.1 g;unfold AB;refine bO.1 ?_;dsimp only;refine bG (P:=λb=>b=.inr ((a:Z),())) ?_ (by grind [bv]);refine bR (a+1) (λe h=>e<=a/\h=((e:Z),())) ⟨Nat.zero_le _,bn⟩ ?_ ?_
 ·rintro e _ m ⟨n,rfl⟩;dsimp only;rw[a7 (aH (show(e:Z)<ao d by grind)),bg aa];refine bA (y:=d[e]'(by omega)) (eT aa) ?_
  rw[g2,c7];refine amF (λf=>?_) (λf=>?_)
  ·refine bv.2 ?_;rcases cU e a with b|b
   ·grind
   grind
  grind [bv,cn]
 omega
section
def iD (l:bm eE) (t:X):X:=cJ l (t+1)-cJ l t
def iC (l:bm eE) (t:X):X:=(ir l (t:Z)).length
def l7 (l:bm eE) (t a:X):X:=((ir l (t:Z)).getD a 0).toNat
def gF (l:bm eE) (t:X):Z:=((l[t]?).map λ(a:eE)=>a.2.2.2.1).getD 0
def Fy (l:bm eE) (t b:X):Prop:=∃a,iD l t<=a/\a<iC l t/\l7 l t a=b
structure jL (n:X) (l:bm eE) (t:X):Prop where
 lt:t<l.length
 g:l[t]?=Y ((cJ l t:Z),(cJ l (t+1):Z),ir l (t:Z),gF l t,())
 Ib:cJ l t<cJ l (t+1)
 C4:cJ l (t+1)<=n
 aaZ:iD l t<=iC l t
 Hu:iC l t<=n
 get:∀i,i<iC l t->(ir l (t:Z))[i]?=Y ((l7 l t i:X):Z)
 ro:∀i,i<iD l t->l7 l t i=cJ l t+i
 Gt:∀i,iD l t<=i->i<iC l t->cJ l (t+1)<=l7 l t i
 B2:∀i,i<iC l t->l7 l t i<n
 aeY:∀i j,i<j->j<iC l t->l7 l t i<l7 l t j
theorem jL.of {G:eu} {l:bm eE} {n t:X} (k:iw G l) (z:G.length=n) (c:t<l.length):jL n l t:=by
 obtain⟨j,m,A,_⟩:=k;obtain⟨v,w,h,x⟩:=(j.1 t c).at c;have e:=m t c;have g:ir l (t:Z)=l[t].2.2.1:=y1 c;have B:=e.asc aa aa;have r:(l[t].2.1-l[t].1).toNat=iD l t:=(by grind [iD]);have q:iD l t<=iC l t:=(by unfold iC;rw[g,<-r];exact e.1);have o:∀a,(b:a<l[t].2.2.1.length)->(a<iD l t->l[t].2.2.1[a]=(cJ l t:Z)+a)/\(iD l t<=a->(cJ l (t+1):Z)<=l[t].2.2.1[a]/\l[t].2.2.1[a]<(n:Z)):=λa b=>(by have f:=e.2 a (eJ _) b b;omega);have F:∀a,(b:a<l[t].2.2.1.length)->0<=l[t].2.2.1[a]/\l[t].2.2.1[a]<(n:Z):=λa b=>(by obtain⟨f,i⟩:=o a b;omega);have p:∀a,a<iC l t->(ir l (t:Z))[a]?=Y ((l7 l t a:X):Z):=λa b=>(by grind [bX,l7,iC]);have H:∀a,(b:a<l[t].2.2.1.length)->((l7 l t a:X):Z)=l[t].2.2.1[a]:=λa b=>(by grind [alU,bX,iC]);have E:∀a,a<iC l t->a<l[t].2.2.1.length:=λa b=>(by grind);have s:∀a d,a<d->d<iC l t->l7 l t a<l7 l t d:=λa d C D=>(by grind [cA]);have u:∀a,a<iC l t->l7 l t a<n:=λa b=>(by grind);refine⟨c,?_,h,aa,q,?_,p,λa b=>?_,λa f i=>?_,u,s⟩
 ·rw[cE c,g];have y:gF l t=l[t].2.2.2.1:=(by simp_all [cE,gF]);grind
 ·have:=Kw ((bI (iC l t)).map (l7 l t)) n ?_ ?_
  ·simp_all
  ·rw[nW];refine rz ?_ apn;grind
  simp_all
 ·grind
 grind
section
variable {n:X} {l:bm eE} {t:X}
theorem jL.own (a:jL n l t):cJ l t+iD l t=cJ l (t+1):=by have:=a.Ib;grind [iD]
theorem jL.pos (d:jL n l t) (g:(a:Z)∈ir l (t:Z)):∃b,b<iC l t/\l7 l t b=a:=by obtain⟨b,c,f⟩:=g8.1 g;have e:=d.get b c;rw[cE c,f] at e;exact⟨b,c,by grind⟩
end
section
variable {G:eu} {l:bm eE} {n:X}
theorem Wr (d:iw G l) (g:b<=a) (h:a<=l.length):cJ l b<=cJ l a:=by
 induction a with
 |zero=>grind
 |succ a e=>
  rcases cU a b with c|c
  ·grind
  have:=e c aa;obtain⟨_,_,f,_⟩:=(d.1.1 a aa).at aa;omega
theorem Gi (b:iw G l) (s:G.length=n) {t:X} (d:t<l.length):(gF l t=-1/\∀e,¬Fy l t e)\/∃a:X,gF l t=(a:Z)/\t<a/\a<l.length/\∀e,Fy l t e->(e:Z)∈ir l (a:Z):=by
 have f:=jL.of b s d;have k:gF l t=l[t].2.2.2.1:=(by grind [bX,gF]);have v:ir l (t:Z)=l[t].2.2.1:=y1 d;obtain⟨w,x,y,z⟩:=(b.1.1 t d).at d;have u:(l[t].2.1-l[t].1).toNat=iD l t:=(by grind [iD]);have C:=b.parent d;rcases b.2.2.1 t d with⟨h,c⟩|⟨h,c,A⟩
 ·refine .inl ⟨by rw[k,c],?_⟩;rintro e ⟨j,ax,p,_⟩;grind [iC]
 right;simp only[u] at h c;have i:iD l t<iC l t:=(by grind [iC]);have g:=f.get (iD l t) i;rw[v,cE h] at g;have g:=gC g;rw[g,fP] at c;have E:=f.B2 _ i;have D:=f.Gt _ (bc _) i;obtain⟨a,m,q,r⟩:=C5 b.1 (aa:l7 l t (iD l t)<G.length);rw[w4.last b.1 (⟨m,q,r⟩:w4 l _ a)] at c;refine⟨a,by rw[k,c],?_,m,?_⟩
 ·rcases cU t a with o|o
  ·exact o
  have:=Wr b (aa:a+1<=t+1) aa;omega
 rintro e ⟨j,ax,p,rfl⟩;have B:j<l[t].2.2.1.length:=(by grind [iC]);have F:=f.get j p;grind
end
end
section
def FD:X->X
 |0=>0
 |t+1=>FD t+(FD t+5)
def e5 (l:bm eE) (t b:X):ak9:=(bI t).filter λa=>br (gF l a=(b:Z))
section
variable {A:X->X->eA} {n:X} {l:bm eE} {B:X->X->X->Z} {t:X}
end
end
section
def Pf {e:Type} {l:bm k} {b c:k->bm e} (d:∀a∈l,b a=c a):l.flatMap b=l.flatMap c:=by rw[aqU,aqU,iU d]
def K3:c4 (Y 0):=λb a=>by cases a;exact(by decide:aF 0<=131072)
def gn:a9:=⟨[],0,λ_ _=>Y 0⟩
def a9.plus (c d:a9):a9:=⟨c.rows,c.full,λa b=>if a∈d.rows/\b∈d.rows then cM (c.s a b) (d.s a b) else c.s a b⟩
def mH (l:bm eE) (a:X):ak9:=(alw (iD l a) (iC l a-iD l a)).map (l7 l a)
def qH (l:bm eE) (b:X->a9) (a:X):ak9:=((e5 l a a).flatMap λc=>(b c).rows.take (b c).full)++alw (cJ l a) (iD l a)
def u7 (d:X->X->eA) (l:bm eE) (c a b:X):eA:=if cJ l c<=min a b/\min a b<cJ l (c+1) then d a b else Y 0
def mu (c:X->X->eA) (l:bm eE) (b:X->a9) (a:X):a9:=⟨qH l b a++mH l a,(qH l b a).length,u7 c l a⟩
def hS (c:X->X->eA) (l:bm eE) (b:X->a9) (a:X):a9:=(e5 l a a).foldl (λe d=>e.plus (b d)) (mu c l b a)
def Gk (b:X->a9):∀(d:ak9) (a:a9),(d.foldl (λa c=>a.plus (b c)) a).rows=a.rows/\(d.foldl (λa c=>a.plus (b c)) a).full=a.full
 |[],_=>⟨bn,bn⟩
 |c::d,a=>Gk b d (a.plus (b c))
theorem La (e:X->a9):∀(f:ak9) (a:a9),(∀b d,c4 (a.s b d))->∀b d,c4 ((f.foldl (λa c=>a.plus (e c)) a).s b d)
 |[],_,g=>g
 |c::f,a,g=>La e f (a.plus (e c)) λb d=>by show c4 (if _ then _ else _);grind [pC]
def iM (b:X->X->eA) (l:bm eE):X->bu (bm a9×bm aK)
 |0=>Y ([],[])
 |t+1=>(iM b l t).bind λa=>(a9.run ((hS b l (λc=>a.1.getD c gn) t).full+1) (hS b l (λc=>a.1.getD c gn) t)).map λd=>(a.1++[d.1],a.2++d.2)
def qF (l:bm eE) (b:X):ak9:=(bI b).filter λa=>br (gF l a=-1\/(b:Z)<=gF l a)
def qX (a:X->a9) (b:X):ak9:=(a b).rows.take (a b).full
structure mg (l:bm eE) (n t:X) (L:X->a9) (ps:bm aK):Prop where
 w:∀c,c<t->lL (L c)
 rest:∀c,c<t->(L c).rows.drop (L c).full=mH l c
 perm:(ps.flatMap aK.a1++(qF l t).flatMap (qX L)).Perm (bI (cJ l t))
 root:∀c,c<t->gF l c=-1->(L c).rows=[]/\(L c).full=0
 de:∀q∈ps,xf (bI n) q
 B2:∀c,c<t->∀i∈(L c).rows,i<n
section
variable {G:eu} {l:bm eE} {n:X}
theorem wd:b∈mH l a↔Fy l a b:=by unfold mH Fy;grind
theorem By:a∈e5 l g b↔a<g/\gF l a=(b:Z):=by unfold e5;grind
theorem VE (a:X):(e5 l a a++(bI a).filter λb=>br (gF l b=-1\/(a:Z)<gF l b)).Perm (qF l a):=by have e:=List.filter_append_perm (λb=>br (gF l b=(a:Z))) (qF l a);have al:(qF l a).filter (λb=>br (gF l b=(a:Z)))=e5 l a a:=(by unfold qF e5;rw[zA];refine qo λb _=>?_;grind);have d:(qF l a).filter (λc=>!br (gF l c=(a:Z)))=(bI a).filter λb=>br (gF l b=-1\/(a:Z)<gF l b):=(by unfold qF;rw[zA];refine qo λb _=>?_;rw[wZ];simp only[cF,uK,apJ,alB];omega);grind
theorem VD (c:gF l a=-1\/(a:Z)<gF l a):qF l (a+1)=((bI a).filter λb=>br (gF l b=-1\/(a:Z)<gF l b))++[a]:=by grind [alG,amN,alh,alg,decide,gF,qF]
def afM (e:jL n l a):(mH l a).Nodup:=by unfold mH aoC;rw[nW];have d:=List.pairwise_lt_range' (s:=iD l a) (n:=iC l a-iD l a);refine(rz ?_ d);intro b c f h g;rw[List.mem_range'_1] at f h;have:=e.aeY b c g aa;omega
theorem mg.zY {b:X->a9} {d:bm aK} (h:mg l n a b d) (f:jL n l a):((d.flatMap aK.a1++(((bI a).filter λc=>br (gF l c=-1\/(a:Z)<gF l c)).flatMap (qX b)))++qH l b a).Perm (bI (cJ l (a+1))):=by
 have i:=h.perm;have e:=(VE (l:=l) a).flatMap_right (qX b);rw[nR] at e;have g:bI (cJ l (a+1))=bI (cJ l a)++alw (cJ l a) (iD l a):=(by have:=f.own;rw[apK,apK,<-f.own];have:=List.range'_append (s:=0) (m:=cJ l a) (n:=iD l a) (step:=1);grind);rw[g];have j:(d.flatMap aK.a1++(((bI a).filter λc=>br (gF l c=-1\/(a:Z)<gF l c)).flatMap (qX b)++(e5 l a a).flatMap (qX b))).Perm (bI (cJ l a)):=
  (aoh _ (List.perm_append_comm.trans e)).trans i
 unfold qH;rw[<-lQ];refine List.Perm.append_right _ ?_;rw[lQ];exact j
theorem mg.xv {c:X->X->eA} (w:∀d g,c4 (c d g)) {b:X->a9} {r:bm aK} (k:mg l n a b r) (h:jL n l a):lL (hS c l b a):=by
 have i:=k.zY h;have p:=i.nodup_iff.2 nV;obtain⟨al,j⟩:=Gk b (e5 l a a) (mu c l b a);refine⟨λd _ g _=>La b _ _ (λd g=>?_) d g,?_,?_⟩
 ·show c4 (if _ then _ else _);split
  ·grind
  exact K3
 ·show((e5 l a a).foldl (λf e=>f.plus (b e)) (mu c l b a)).rows.Nodup;rw[al];refine iI.2 ⟨(iI.1 p).2.1,afM h,λs m t o u=>?_⟩;have v:=fN.1 (i.mem_iff.1 (ln _ m));obtain⟨d,i1,q,x⟩:=wd.1 o;have:=h.Gt d i1 q;omega
 show((e5 l a a).foldl (λf e=>f.plus (b e)) (mu c l b a)).full<=((e5 l a a).foldl (λf e=>f.plus (b e)) (mu c l b a)).rows.length;rw[al,j];show(qH l b a).length<=(qH l b a++mH l a).length;grind
def xw (c:X->X->eA) (b:X->a9) (a:X):(hS c l b a).rows=qH l b a++mH l a/\(hS c l b a).full=(qH l b a).length:=Gk b (e5 l a a) (mu c l b a)
def mg.zZ (e:X->X->eA) {b:X->a9} {j:bm aK} (g:mg l n a b j) (c:jL n l a) {i:X} (f:i∈(hS e l b a).rows):i<n:=by
 rw[(xw e b a).1,g0] at f;have:=c.C4;rcases f with d|d
 ·have k:=fN.1 ((g.zY c).mem_iff.1 (ln _ d));omega
 obtain⟨i,i1,h,m⟩:=wd.1 d;have:=c.B2 i h;omega
theorem mg.Nu (b:X->X->eA) (g:∀f i,c4 (b f i)) {c:X->a9} {j:bm aK} (d:mg l n a c j) (e:jL n l a):(hS b l c a).rows.length<=n:=by have:=(d.xv g e).nd.length_le_of_subset (l₂:=bI n) λf h=>fN.2 (d.zZ b e h);grind
theorem mg.child (h:X->X->eA) (k:iw G l) (j:G.length=n) (s:a<l.length) {c:X->a9} {v:bm aK} (q:mg l n a c v) (r:b∈e5 l a a) (m:g∈(c b).rows):g∈(hS h l c a).rows:=by
 have i:=jL.of k j s;obtain⟨p,x⟩:=By.1 r;rw[(xw h c a).1];unfold qH;rw[<-j5 (c b).full (c b).rows,g0] at m;rcases m with d|d
 ·grind
 rw[q.rest b p] at d;have d:=wd.1 d;rcases Gi k j (aa:b<l.length) with⟨y,_⟩|⟨o,z,A,B,w⟩
 ·omega
 obtain rfl:o=a:=aa;obtain⟨f,t,u⟩:=i.pos (w g d);rcases cU f (iD l o) with e|e
 ·have:=i.ro f e;grind
 exact ln _ (wd.2 ⟨f,e,t,u⟩)
theorem vO {h:X->X->eA} (C:∀k M,c4 (h k M)) (y:iw G l) (x:G.length=n):∀{t:X},t<=l.length->∀{o:bm a9} {u:bm aK},iM h l t=Y (o,u)->o.length=t/\mg l n t (λa=>o.getD a gn) u
 |0,_,o,u,e=>by rw[iM] at e;cases e;refine⟨bn,⟨λa g=>by omega,λa g=>by omega,?_,λa g=>by omega,λb A=>(by cases A),λa g=>by omega⟩⟩;show List.Perm [] (bI (cJ l 0));have:cJ l 0=0:=rfl;grind
 |t+1,R,o,u,e=>by
  rw[iM] at e;cases D:iM h l t with
  |none=>grind
  |some N=>
   obtain⟨c,S⟩:=N;obtain⟨i1,f⟩:=vO C y x aa D;have p:=jL.of y x (aa:t<l.length);rw[D] at e;dsimp only[bN] at e;have z:=f.xv C p;generalize s:hS h l (λa=>c.getD a gn) t=m at e;rw[s] at z;cases E:a9.run (m.full+1) m with
   |none=>grind
   |some b=>
    obtain⟨d,T⟩:=b;rw[E] at e;cases e;have j:=Tc z (xc _) E;have L:=(xw h (λa=>c.getD a gn) t (l:=l));rw[s] at L;have K:m.rows.take m.full=qH l (λa=>c.getD a gn) t:=(by grind);have H:m.rows.drop m.full=mH l t:=(by grind);have q:∀a,a<t->(c++[d]).getD a gn=c.getD a gn:=λa g=>(by rw[ky,ky,qp aa]);have r:(c++[d]).getD t gn=d:=(by grind);have Q:=Gi y x (aa:t<l.length);refine⟨by grind,⟨?_,?_,?_,?_,?_,?_⟩⟩
    ·intro a g;dsimp only;rcases cn a t with b|b
     ·rw[q a b];exact f.w a b
     obtain rfl:a=t:=aa;rw[r];exact j.w
    ·intro a g;dsimp only;rcases cn a t with b|b
     ·rw[q a b];exact f.rest a b
     obtain rfl:a=t:=aa;rw[r,j.rest,H]
    ·rw[VD (by grind),nR,nR];have al:((bI t).filter λa=>br (gF l a=-1\/(t:Z)<gF l a)).flatMap (qX λa=>(c++[d]).getD a gn)=((bI t).filter λa=>br (gF l a=-1\/(t:Z)<gF l a)).flatMap (qX λa=>c.getD a gn):=by
      refine Pf λa g=>?_;show((c++[d]).getD a gn).rows.take ((c++[d]).getD a gn).full=(c.getD a gn).rows.take (c.getD a gn).full;grind
     have F:aoD (qX λa=>(c++[d]).getD a gn) [t]=d.rows.take d.full:=(by show(((c++[d]).getD t gn).rows.take ((c++[d]).getD t gn).full)++[]=_;grind);rw[al,F];have I:=j.perm;rw[K] at I;refine List.Perm.trans ?_ (f.zY p);grind
    ·intro a g J;dsimp only;rcases cn a t with b|b
     ·rw[q a b];exact f.root a b J
     obtain rfl:a=t:=aa;rw[r];refine j.whole z ?_;have:mH l a=[]:=aqV.2 λO P=>(by grind [wd]);grind
    ·intro b A;rcases g0.1 A with v|v
     ·exact f.de b v
     have B:=j.de b v;exact{B with sub:=λk i=>fN.2 (f.zZ h p (by rw[s];exact B.sub k i))}
    intro a g k i;dsimp only at i;rcases cn a t with b|b
    ·rw[q a b] at i;exact f.B2 a b k i
    obtain rfl:a=t:=aa;rw[r] at i;exact f.zZ h p (by rw[s];exact j.sub k i)
theorem mg.fl {c:X->a9} {h:bm aK} (d:mg l n b c h) (e:a<b):(c a).full<=n/\(c a).rows.length<=n:=by have i:=(d.w a e).nd.length_le_of_subset (l₂:=bI n) λg f=>fN.2 (d.B2 a e g f);have j:=(d.w a e).full;grind
def mg.all {b:X->a9} {h:bm aK} (g:iw G l) (f:G.length=n) (d:mg l n l.length b h):(h.flatMap aK.a1).Perm (bI n):=by
 have e:=d.perm;have j:(qF l l.length).flatMap (qX b)=[]:=List.flatMap_eq_nil_iff.2 λi k=>by
  obtain⟨a,c⟩:=h1.1 k;have a:=fN.1 a;have c:=anD c;rcases Gi g f a with⟨m,_⟩|⟨o,p,_,q,_⟩
  ·unfold qX;rw[(d.root i a m).1,List.take_nil]
  omega
 rw[j,pq,g.1.2,f] at e;exact e
end
def Fk {G:eu} {l:bm eE} (c:iw G l):l.length<=G.length:=by
 have:∀a,a<=l.length->a<=cJ l a:=by
  intro a
  induction a with
  |zero=>omega
  |succ a d=>
   intro e;have:=d aa;have:=(jL.of c bn (aa:a<l.length)).Ib;omega
 have b:=this l.length (bc _);rw[c.1.2] at b;exact b
end
theorem OC (b:c4 O):Dm (aA O,c,())=Y (kx O c,()):=by
 unfold Dm;refine ai (EU b) ?_;dsimp only;rw[A3];cases O with
 |none=>rfl
 |some a=>
  have d:=b a bn;have i:=kO d;have f:=kN d;refine ai (o0 b) ?_;dsimp only;show(bif fB a==0 then _ else _)=_;rw[lg];unfold kx p4;by_cases e:a=0
  ·grind
  rw[aD e];simp only;rw[ar e,bP];have h:0<(cD a).natAbs:=(by grind [j1]);refine ai (y:=(pN (br (a<0)) (cD a).natAbs (cW a) bq,())) ?_ ?_
  ·unfold Is;rw[hf];refine ai (zR (jX aa)) ?_;simp_all [ar,FZ,pN,eF]
  have g:eF a=cW a:=(by unfold eF;omega);rw[g] at f;exact ai (S3 aa h aa aa) rfl
theorem VN (a:fh c):CT bD c 9223372036854775808=c %9223372036854775808:=by obtain⟨b,rfl⟩:=gh a.1;have d:b<18446744073709551616:=(by have:=a.2;omega);unfold CT;rw[show bD.bits=64 from rfl,BitVec.toNat_and,Wq d,(ab:(~~~cg 64 9223372036854775808).toNat=2^63-1),apo];grind [Cm,Nat.mod_lt]
theorem O3 (a:fh c) (e:bh c≠2047):fh (c %9223372036854775808)/\aP (c %9223372036854775808)=zQ (aP c):=by have g:=a.1;have h:=a.2;have al:bh (c %9223372036854775808)=bh c:=(by grind [bh]);have f:gw (c %9223372036854775808)=gw c:=(by grind [gw]);refine⟨⟨aa,aa⟩,?_⟩;rw[o9 aa,o9 e];have b:ly (c %9223372036854775808)=ly c:=(by grind [ly]);have i:=yf c;have d:kK (c %9223372036854775808)=((kK c).natAbs:Z):=(by unfold kK;omega);rw[b,d];show Y _=Y (((kK c*2^(ly c+65536).toNat).natAbs:X):Z);grind [i7]
theorem Yl (b:fh c) (f:bh c≠2047):Dn ([c],())=Y (bq,()):=by
 unfold Dn;refine bO.1 ?_;dsimp only;refine bG (P:=λd=>d=.inl ()) ?_ (by grind [bv]);refine bR 1 (λa e=>e=((a:Z),())) rfl ?_ ?_
 ·rintro a _ g rfl;obtain rfl:a=0:=aa;dsimp only;rw[a7 (by rfl)];refine bA (y:=c) rfl (bA (Zu b) ?_);dsimp only;rw[a2 (by
   rw[g2];refine aD ?_;unfold kt;omega)]
  exact bv.2 bn
 rintro _ rfl;dsimp only;rw[a2 (by rfl)];grind [bv]
theorem Je (b:fh c) (a:bh c≠2047):xJ (c,())=Y (c %9223372036854775808,()):=by simp_all [bP,VN,ai,Yl,xJ]
section
def fq (R:ak9) (lf:ak6) (b:X):ak9:=((bI b).filter λa=>lf.getD a bq).map λa=>R.getD a 0
theorem yx (R:ak9) (lf:ak6) (a:X):fq R lf (a+1)=if lf.getD a bq=bp then fq R lf a++[R.getD a 0] else fq R lf a:=by unfold fq;rw[jq,oG,mh,aov];grind
structure jB (R:ak9) (full:X) (lf:ak6) (M:bm (bm gB)) (x:a9):Prop where
 ll:lf.length=R.length
 nd:R.Nodup
 sm:R.length<=1000
 fl:full<=R.length
 rows:x.rows=fq R lf R.length
 full:x.full=(fq R lf full).length
 okd:x.okd
 ent:∀i j,i<R.length->j<R.length->lf.getD i bq=bp->lf.getD j bq=bp->∃row,M[i]?=Y row/\row[j]?=Y (aA (x.s (R.getD i 0) (R.getD j 0)))
section
variable {R:ak9} {full:X} {lf:ak6} {M:bm (bm gB)} {x:a9}
def cH (R:ak9) (full:X) (lf:ak6) (M:bm (bm gB)):c6:=(cZ R,(full:Z),lf,M,())
theorem J4 (d:a<b) (c:lf.getD a bq=bp):R.getD a 0∈fq R lf b:=eS.2 ⟨a,h1.2 ⟨fN.2 d,c⟩,bn⟩
theorem jB.mem (b:jB R full lf M x) (c:a<R.length) (d:lf.getD a bq=bp):R.getD a 0∈x.rows:=by rw[b.rows];grind [J4]
theorem jB.value (c:jB R full lf M x) (d:a<R.length) (e:b<R.length) (f:lf.getD a bq=bp) (g:lf.getD b bq=bp):tx (Y (cH R full lf M),(a:Z),(b:Z),())=Y (x.ba (R.getD a 0) (R.getD b 0),()):=by
 obtain⟨i,h,j⟩:=c.ent a b d e f g;unfold tx;refine ai (y:=cH R full lf M) rfl (ai (y:=i) ?_ (ai (y:=aA (x.s (R.getD a 0) (R.getD b 0))) ?_ (ai (OC (c.okd _ (c.mem d f) _ (c.mem e g))) rfl)))
 ·rw[h7];exact h
 grind [h7]
theorem jB.inj (a:jB R full lf M x) {i j:X} (b:i<R.length) (c:j<R.length):R.getD i 0=R.getD j 0↔i=j:=by rw[ky,cE b,ky,cE c];exact qq a.nd
theorem WI:br (gb c j>0)=br (j<c):=by rw[cB];grind [absurd,gb]
theorem jB.PB (i:jB R full lf M x) (H:a<R.length) (T:lf.getD a bq=bp):ae (Ax (Y (cH R full lf M),(a:Z),())) λr=>
  (x.fin (R.getD a 0)/\∃e:ak5,r=(aA (Y (x.hp (R.getD a 0)).1),zW e,0,())/\(∀c,e=Y c->c<R.length/\lf.getD c bq=bp/\(x.hp (R.getD a 0)).2=Y (R.getD c 0))/\(e=bo->(x.hp (R.getD a 0)).2=bo))\/
  (¬x.fin (R.getD a 0)/\r.2.2.1=233):=by
 obtain⟨s,o⟩:∃s:X,s=65536:=⟨_,bn⟩;have F:ao (cH R full lf M).1=(R.length:Z):=(by rw[bb];exact b3 _ (jG _));have ap:=i.sm;have an:=i.ll;generalize B:R.getD a 0=d;unfold Ax;refine bA (vF ab ab) ?_;have J:jm 0=Y 0:=rfl;rw[J];refine bA (y:=cH R full lf M) rfl ?_;refine bG (P:=λf=>(x.fin d/\∃(e:ak5) (g:cS),f=.inl (zW e,g,aA (Y (x.hp d).1),())/\(∀c,e=Y c->c<R.length/\lf.getD c bq=bp/\(x.hp d).2=Y (R.getD c 0))/\(e=bo->(x.hp d).2=bo))\/(¬x.fin d/\∃j t,f=.inr (j,t,233,()))) ?_ ?_
 rotate_left
 ·grind [bv]
 refine bR R.length (λb f=>(∀h∈fq R lf b,bh (x.ba h d)≠2047)/\∃(e:ak5) (g:cS),f=(zW e,(b:Z),g,aA (Y (hV (λc=>x.av c d) d (fq R lf b) (0,bo)).1),())/\(∀c,e=Y c->c<R.length/\lf.getD c bq=bp/\(hV (λc=>x.av c d) d (fq R lf b) (0,bo)).2=Y (R.getD c 0))/\(e=bo->(hV (λc=>x.av c d) d (fq R lf b) (0,bo)).2=bo)) ?_ ?_ ?_
 ·refine⟨by simp[fq],bo,_,bn,?_,λ_=>rfl⟩;grind
 rotate_left
 ·rintro _ ⟨q,e,g,rfl,n,k⟩;dsimp only;rw[F,a2 (aD (aa:¬(R.length:Z)<(R.length:Z)))];rw[<-i.rows] at q n k|-;exact bv.2 (.inl ⟨q,e,g,bn,n,k⟩)
 rintro b _ u ⟨q,e,g,rfl,n,k⟩;dsimp only;rw[F,a7 (aH (aa:(b:Z)<(R.length:Z))),bg aa];have N:aw (cH R full lf M).2.2.1 (b:Z)=Y (lf.getD b bq):=(by rw[h7];show lf[b]?=_;grind);have C:aS s 1074 1024 1 (Y (hV (λc=>x.av c d) d (fq R lf b) (0,bo)).1):=Jz (λh E=>x.zX o (q h E)) aS.zero;rw[yx];refine bG (P:=λf=>((∀h∈(if lf.getD b bq=bp then fq R lf b++[R.getD b 0] else fq R lf b),bh (x.ba h d)≠2047)/\∃(e:ak5) (g:cS),f=.inl (zW e,g,aA (Y (hV (λc=>x.av c d) d (if lf.getD b bq=bp then fq R lf b++[R.getD b 0] else fq R lf b) (0,bo)).1),())/\(∀c,e=Y c->c<R.length/\lf.getD c bq=bp/\(hV (λc=>x.av c d) d (if lf.getD b bq=bp then fq R lf b++[R.getD b 0] else fq R lf b) (0,bo)).2=Y (R.getD c 0))/\(e=bo->(hV (λc=>x.av c d) d (if lf.getD b bq=bp then fq R lf b++[R.getD b 0] else fq R lf b) (0,bo)).2=bo))\/(¬x.fin d/\∃j t,f=.inr (.inr (.inr (j,t,233,()))))) ?_ ?_
 rotate_left
 ·grind [bv]
 refine bA (y:=cH R full lf M) rfl (bA N ?_);cases A:lf.getD b bq with
 |false=>
  rw[a7 (by rfl),ar ab];grind [bv]
 |true=>
 rw[a2 (by rfl),ca bn];have I:=i.value u H A T;rw[B] at I;have p:=x.y0 (R.getD b 0) d;refine bA I (bA (FC p) ?_);dsimp only;by_cases f:bh (x.ba (R.getD b 0) d)=2047
 ·rw[a7 (by grind)];exact bv.2 (.inr ⟨λS=>S _ (i.mem u A) f,_,_,bn⟩)
 rw[a2 (by grind)];have L:∀h∈fq R lf b++[R.getD b 0],bh (x.ba h d)≠2047:=λh E=>(by grind);have O:hV (λc=>x.av c d) d (fq R lf b++[R.getD b 0]) (0,bo)=if R.getD b 0=d then hV (λc=>x.av c d) d (fq R lf b) (0,bo) else if(hV (λc=>x.av c d) d (fq R lf b) (0,bo)).2=bo\/(hV (λc=>x.av c d) d (fq R lf b) (0,bo)).1<x.av (R.getD b 0) d then(x.av (R.getD b 0) d,Y (R.getD b 0)) else hV (λc=>x.av c d) d (fq R lf b) (0,bo):=by rw[Pw,hV,hV]
 rw[O];generalize hV (λc=>x.av c d) d (fq R lf b) (0,bo)=j at*;obtain⟨l,w⟩:=j;dsimp only at n k C|-;have D:R.getD b 0=d↔b=a:=(by rw[<-B];exact i.inj u H);by_cases z:b=a
 ·rw[a7 (by grind),au (D.2 z)];grind [bv]
 rw[a2 (by grind),b8 (mt D.1 z)];obtain⟨U,V⟩:=O3 p f;have ad:=x.Nm f;have K:=x.zX o f;have G:kZ (x.ba (R.getD b 0) d %9223372036854775808,())=Y (aA (Y (x.av (R.getD b 0) d)),()):=(by grind [q4]);refine bA (Je p f) (bA G (bA (IV (K.cC o ab ab) (C.cC o ab ab)) ?_));dsimp only;have Q:e=bo↔w=bo:=by
  constructor
  ·exact k
  intro am;cases e with
  |none=>rfl
  |some c=>
   grind
 refine bG (P:=λr=>r=(br (w=bo\/l<x.av (R.getD b 0) d),g,aA (Y l),())) ?_ ?_
 ·rw[WI];by_cases m:l<x.av (R.getD b 0) d
  ·simp_all [aH,bv,a2]
  rw[a7 (by grind)];refine bv.2 ?_;have:br (zW e<0)=br (w=bo\/l<x.av (R.getD b 0) d):=by
   rw[cB];cases e with
   |none=>exact⟨λ_=>.inl (Q.1 bn),λ_=>by decide⟩
   |some c=>
    constructor
    ·intro v;have:((c:X):Z)<0:=v;omega
    grind
  grind
 rintro _ rfl;dsimp only;rw[c7];refine amF (λm=>?_) (λm=>?_)
 ·rw[au m];refine bA (Je p f) (bA G ?_);refine bv.2 (.inl ⟨L,Y b,g,bn,?_,λv=>by cases v⟩);grind
 rw[ar m];grind [bv]
end
end
section
theorem JW (d:c4 (Y c)) (e:c4 (Y j)) (a:gz (64*c)) (b:gz (41*j)):xS (aA (Y c),aA (Y j),())=Y (br (41*j<=64*c),()):=by unfold xS;refine ai (vF ab ab) (ai (oZ (FB _) d) (ai (vF ab ab) (ai (oZ (FB _) e) ?_)));rw[QU ab a,QU ab b];refine ai (IV a b) ?_;dsimp only;have:br (gb (64*c) (41*j)>=0)=br (41*j<=64*c):=(by rw[cB];grind [absurd,gb]);grind
section
variable {R:ak9} {full:X} {lf:ak6} {M:bm (bm gB)} {x:a9}
def nf (R:ak9) (lf:ak6) (c b:X):ak9:=((alw c b).filter λa=>lf.getD a bq).map λa=>R.getD a 0
theorem af5 (R:ak9) (lf:ak6) (a b:X):nf R lf a (b+1)=if lf.getD a bq=bp then R.getD a 0::nf R lf (a+1) b else nf R lf (a+1) b:=by grind [List.range'_succ,nf]
theorem J2 (R:ak9) (lf:ak6) (a:X):∀d,∃b,fq R lf (a+d)=fq R lf a++b
 |0=>⟨[],ac⟩
 |d+1=>by obtain⟨b,c⟩:=J2 R lf a d;grind [amD,aoA,yx]
def jB.take (a:jB R full lf M x):x.rows.take x.full=fq R lf full:=by have:=a.fl;obtain⟨c,b⟩:=J2 R lf full (R.length-full);rw[a.rows,a.full,(aa:R.length=full+(R.length-full)),b,List.take_left'];rfl
theorem jB.QA (a:jB R full lf M x) {k:X} (e:k<R.length) (f:lf.getD k bq=bp):R.getD k 0∈x.rows.take x.full↔k<full:=by
 have:=a.fl;rw[a.take];constructor
 ·intro c;unfold fq at c;obtain⟨g,b,d⟩:=eS.1 c;have b:=fN.1 (h1.1 b).1;have:=(a.inj aa e).1 d;omega
 grind [J4]
def jB.Ow (h:jB R full lf M x) (d:a<R.length) (e:lf.getD a bq=bp) (b:bh (x.ba (R.getD a 0) (R.getD a 0))≠2047):Au (Y (cH R full lf M),(a:Z),())=Y (aA (Y (x.av (R.getD a 0) (R.getD a 0))),()):=by have c:=x.y0 (R.getD a 0) (R.getD a 0);obtain⟨f,g⟩:=O3 c b;unfold Au;refine ai (h.value d d e e) (ai (Je c b) (ai (y:=(aA (Y (x.av (R.getD a 0) (R.getD a 0))),())) ?_ bn));rw[q4 f,g,x.Nm b]
def Hg (x:a9) (R:ak9) (full:X) (lf:ak6) (c:ak9) (d:ala×Z×bt):Prop:=(d.2.1=233/\x.ik c=bo)\/∃b:ak9,d=(cZ b,0,())/\(∀a∈b,a<full/\lf.getD a bq=bp)/\x.ik c=Y (b.map λa=>R.getD a 0)
theorem jB.choose (e:jB R full lf M x):ae (DJ (Y (cH R full lf M),())) λk=>Hg x R full lf (x.rows.take x.full) k:=by
 obtain⟨D,c⟩:∃D:X,D=65536:=⟨_,bn⟩;have d1:=e.sm;have dl:=e.fl;have ds:=e.ll;rw[e.take];have a0:fq R lf full=nf R lf 0 full:=(by unfold fq nf;rw[apK]);rw[a0];unfold DJ;refine bA (y:=cH R full lf M) rfl ?_;refine bG (P:=λd=>(d=.inl ()/\x.ik (nf R lf 0 full)=Y [])\/∃k,d=.inr k/\Hg x R full lf (nf R lf 0 full) k) ?_ ?_
 rotate_left
 ·rintro _ (⟨rfl,e⟩|⟨k,rfl,e⟩)
  ·exact bv.2 (.inr ⟨[],bn,ac,e⟩)
  grind [bv]
 refine bR full (λb cs=>cs=((b:Z),())/\x.ik (nf R lf 0 full)=x.ik (nf R lf b (full-b))) ⟨bn,bn⟩ ?_ ?_
 rotate_left
 ·rintro _ ⟨rfl,l⟩;dsimp only;rw[a2 (aD (show¬(full:Z)<(cH R full lf M).2.1 from aqW _))];refine bv.2 (.inl ⟨bn,?_⟩);rw[l,amm];rfl
 rintro b _ d0 ⟨rfl,l⟩;dsimp only;have z:b<R.length:=aa;rw[a7 (aH (show(b:Z)<(cH R full lf M).2.1 by show(b:Z)<(full:Z);omega)),bg aa];rw[(aa:full-b=full-(b+1)+1),af5] at l;refine bG (P:=λd=>(d=.inl ()/\x.ik (nf R lf 0 full)=x.ik (nf R lf (b+1) (full-(b+1))))\/∃k,d=.inr (.inr (.inr k))/\Hg x R full lf (nf R lf 0 full) k) ?_ ?_
 rotate_left
 ·grind [bv]
 have bl:aw (cH R full lf M).2.2.1 (b:Z)=Y (lf.getD b bq):=(by rw[h7];show lf[b]?=_;grind);refine bA (y:=cH R full lf M) rfl (bA bl ?_);cases o:lf.getD b bq with
 |false=>
  rw[o,ar ab] at l;rw[a7 (by rfl)];grind [bv]
 |true=>
 rw[o,au bn] at l;rw[a2 (by rfl)];refine bG (e.PB z o) ?_;have G:=e.mem z o;generalize F:R.getD b 0=a at*;rintro⟨am,an,ap,_⟩ (⟨j,cv,i,ci,co⟩|⟨j,i⟩)
 rotate_left
 ·dsimp only at i;subst i;dsimp only;rw[a7 (by rfl)];refine bv.2 (.inr ⟨_,bn,.inl ⟨bn,?_⟩⟩);rw[l,a9.ik,ca j]
 cases i;dsimp only;rw[a2 (by rfl)];have I:=e.Ow z o (by rw[F];exact j a G);rw[F] at I;refine bA I ?_;dsimp only;have t:=x.PA c j;have w:=x.zX c (j a G);have u:c4 (Y (x.hp a).1):=λp g=>(by cases g;exact t.cC c ab ab);have K:c4 (Y (x.av a a)):=λp g=>(by cases g;exact w.cC c ab ab);refine bG (P:=λd=>d=if(x.hp a).1=0\/41*(x.hp a).1<=64*x.av a a then .inr (.inr (.inr (.inr ([(b:Z)],0,())))) else .inl (aA (Y (x.hp a).1),aA (Y (x.av a a)),())) ?_ ?_
 ·refine bG (P:=λd=>d=(br ((x.hp a).1=0\/41*(x.hp a).1<=64*x.av a a),aA (Y (x.hp a).1),aA (Y (x.av a a)),())) ?_ ?_
  ·refine bA (o0 u) ?_;dsimp only;by_cases q:(x.hp a).1=0
   ·rw[a2 (by show((fB (x.hp a).1==0)==bq)=bq;grind [lg,aH])];grind [aH,bv]
   rw[a7 (by show((fB (x.hp a).1==0)==bq)=bp;grind [lg,aD])];refine bA (JW K u (w.y4 c ab ab ab) (t.y4 c ab ab ab)) ?_;simp_all [cB,bv]
  rintro _ rfl;dsimp only;rw[c7];refine amF (λq=>?_) (λq=>?_)
  ·rw[au q];grind [bv]
  rw[ar q];grind [bv]
 rintro _ rfl;by_cases r:(x.hp a).1=0\/41*(x.hp a).1<=64*x.av a a
 ·rw[au r];refine bv.2 (.inr ⟨_,bn,.inr ⟨[b],bn,by grind,?_⟩⟩);simp_all [ar,ale,au,zE,a9.ik]
 rw[b8 r];dsimp only;refine bA (y:=cH R full lf M) rfl ?_;cases cv with
 |none=>exact absurd (.inl (Pz (co bn)).2) r
 |some h=>
  obtain⟨s,v,bx⟩:=ci h bn;have J:=e.QA s v;have H:=e.mem s v;have a4:=e.PB s v;have a3:=λj=>e.Ow s v j;generalize dg:R.getD h 0=f at*;have m:x.ik (a::nf R lf (b+1) (full-(b+1)))=if f∉x.rows.take x.full then x.ik (nf R lf (b+1) (full-(b+1))) else if¬x.fin f then bo else
   if 41*((x.hp a).1*(x.hp a).1)<=64*(x.av a a*(x.hp f).1) then Y [a] else
   if 41*(x.hp f).1<=64*x.av f f then Y [f] else Y [a,f]:=by
   rw[a9.ik,ar (ale j),ar r,bx]
  replace m:=l.trans m;show ae (bif br ((h:Z)>=(cH R full lf M).2.1) then _ else _) _;by_cases E:h<full
  rotate_left
  ·rw[a7 (aH (show(h:Z)>=(cH R full lf M).2.1 by show(full:Z)<=(h:Z);omega))];exact bv.2 (.inl ⟨bn,m.trans (au (mt J.1 E))⟩)
  rw[a2 (aD (show¬(h:Z)>=(cH R full lf M).2.1 by show¬(full:Z)<=(h:Z);omega))];rw[ar (ale (J.2 E))] at m;refine bG a4 ?_;rintro⟨am,an,ap,_⟩ (⟨n,d2,i,_,_⟩|⟨n,i⟩)
  rotate_left
  ·dsimp only at i;subst i;dsimp only;rw[a7 (by rfl)];exact bv.2 (.inr ⟨_,bn,.inl ⟨bn,m.trans (ca n)⟩⟩)
  cases i;dsimp only;rw[a2 (by rfl)];rw[b8 (ale n)] at m;have A:=x.PA c n;have L:=x.zX c (n f H);have N:c4 (Y (x.hp f).1):=λp g=>(by cases g;exact A.cC c ab ab);have ce:c4 (Y (x.av f f)):=λp g=>(by cases g;exact L.cC c ab ab);obtain⟨B,_,_,c1,al,U,O,Q⟩:=aS.mul c w A ab ab ab;obtain⟨C,_,_,c2,V,ad,S,T⟩:=aS.mul c t t ab ab ab;cases al;cases U;cases V;cases ad;rw[O] at B;rw[S] at C;refine bA (oZ K N) (bA (oZ u u) ?_);rw[O,S];refine bA (JW (λp g=>by cases g;exact B.cC c ab ab) (λp g=>by cases g;exact C.cC c ab ab) (B.y4 c ab ab ab) (C.y4 c ab ab ab)) ?_;dsimp only;rw[c7];refine amF (λd=>?_) (λd=>?_)
  ·rw[QT T Q] at d;refine bv.2 (.inr ⟨_,bn,.inr ⟨[b],bn,by grind,?_⟩⟩);grind
  rw[QT T Q] at d;rw[b8 d] at m;refine bA (a3 (n f H)) (bA (JW ce N (L.y4 c ab ab ab) (A.y4 c ab ab ab)) ?_);dsimp only;rw[c7];refine amF (λd=>?_) (λd=>?_)
  ·refine bv.2 (.inr ⟨_,bn,.inr ⟨[h],bn,by grind,?_⟩⟩);grind
  refine bv.2 (.inr ⟨_,bn,.inr ⟨[b,h],bn,?_,?_⟩⟩)
  ·grind
  grind
end
end
def e1 (lf:ak6) (a:X):ak9:=(bI a).filter λb=>lf.getD b bq
theorem FJ (lf:ak6) (a:X):e1 lf (a+1)=if lf.getD a bq=bp then e1 lf a++[a] else e1 lf a:=by unfold e1;rw[jq,oG,mh,aov];grind
def J1 (lf:ak6) (a:X):(e1 lf a).length<=a:=cO (lS _ _) ac
theorem FK (a:ak9) (lf:ak6) (b:X):fq a lf b=(e1 lf b).map λc=>a.getD c 0:=rfl
theorem SC {lf:ak6} (i:lf.length=f.length) (j:f.length<=1000):Ay (Y (cH f a lf o),())=Y (cZ (e1 lf f.length),()):=by
 have d:ao (cH f a lf o).1=(f.length:Z):=(by rw[bb];exact b3 _ (jG _));unfold Ay;refine bO.1 ?_;refine bA (y:=cH f a lf o) rfl ?_;refine bG (P:=λc=>c=(cZ (e1 lf f.length),())) ?_ (by grind [bv]);refine bR f.length (λb c=>c=((b:Z),cZ (e1 lf b),())) rfl ?_ ?_
 ·rintro b _ h rfl;dsimp only;rw[d,a7 (aH (aa:(b:Z)<(f.length:Z))),bg aa];have e:aw (cH f a lf o).2.2.1 (b:Z)=Y (lf.getD b bq):=by
   rw[h7];show lf[b]?=_;grind
  refine bG (P:=λc=>c=(cZ (e1 lf (b+1)),())) ?_ (by grind [bv]);refine bA (y:=cH f a lf o) rfl (bA e ?_);have:=J1 lf b;rw[FJ];cases g:lf.getD b bq with
  |false=>
   rw[bP,ar ab];grind [bv]
  |true=>
   rw[bF,au bn,e3 (by grind [jG]),aI];refine bv.2 ?_;rw[wg];rfl
 rintro _ rfl;dsimp only;rw[d,a2 (aD (aa:¬(f.length:Z)<(f.length:Z)))];grind [bv]
theorem afZ {a:er} (e:∀b∈a,c4 b) (f:c4 O) (h:a.length<=1000):pK (a.map aA,aA O,())=Y (a.map (λb=>aA (bk b O)),()):=by
 unfold pK;refine bO.1 ?_;dsimp only;refine bG (P:=λd=>d=(a.map (λb=>aA (bk b O)),())) ?_ (by grind [bv]);refine bR a.length (λc d=>d=((c:Z),(a.take c).map (λb=>aA (bk b O)),())) rfl ?_ ?_
 ·rintro c _ g rfl;dsimp only;rw[a7 (aH (show(c:Z)<ao (a.map aA) by grind)),bg aa];refine bA (y:=aA a[c]) (by grind [h7,bX]) ?_;refine bA (oZ (e _ (b6 g)) f) ?_;grind [ali,bX,bv,e3]
 rintro _ rfl;dsimp only;rw[a2 (aD (show¬(a.length:Z)<ao (a.map aA) by grind)),cy];grind [bv]
def eM (a:X) (E:X->X->gB):bm (bm gB):=az a λb=>az a (E b)
theorem aay {E:X->X->gB} (j:a<g) (k:b<g) (f:gB):∃e,(eM g E)[a]?=Y e/\e.length=g/\e[b]?=Y (E a b)/\(eM g E).set a (e.set b f)=eM g λc d=>if c=a/\d=b then f else E c d:=by
 refine⟨_,gV j,cI _ _,gV k,?_⟩;unfold eM;rw[ho,ho];refine df λc l=>?_;by_cases h:c=a
 ·subst h;rw[gH];refine df λd m=>?_;by_cases i:d=b
  ·subst i;rw[gH];grind
  simp_all [g6,ar]
 simp_all [g6,df,ar]
def kQ (c:ak9) (f:X->X->eA) (g h:X->eA) (E:X->X->gB) (d e:X):X->X->gB:=λa b=>
 if(a∈c.take d/\b∈c)\/(c[d]?=Y a/\b∈c.take e) then aA (cM (f a b) (c5 (bk (g a) (h b)))) else E a b
theorem TK {R:ak9} {full:X} {lf:ak6} {E:X->X->gB} {l:ak9} {s:X->X->eA} {u v:X->eA} (S:a<=1000) (w:∀J∈l,J<a) (T:l.Nodup) (O:l.length<=1000) (N:∀c∈l,∀e∈l,E c e=aA (s c e)) (G:∀c∈l,∀e∈l,c4 (s c e)) (H:∀c∈l,c4 (u c)) (I:∀c∈l,c4 (v c)):qM (cH R full lf (eM a E),cZ l,l.map (λc=>aA (u c)),l.map (λc=>aA (v c)),())=Y (cH R full lf (eM a λc e=>if c∈l/\e∈l then aA (cM (s c e) (c5 (bk (u c) (v e)))) else E c e),()):=by
 have x:ao (cZ l)=(l.length:Z):=(by rw[bb,jG]);have q:∀b,(z:b<l.length)->aw (cZ l) (b:Z)=Y ((l[b]:X):Z):=λb g=>(by rw[h7];show(l.map λ(M:X)=>(M:Z))[b]?=_;grind);have y:∀(h:X->eA) b,(z:b<l.length)->aw (l.map λc=>aA (h c)) (b:Z)=Y (aA (h l[b])):=λh b g=>(by grind [h7,bX]);unfold qM;refine bO.1 ?_;dsimp only;refine bG (P:=λf=>f=(cH R full lf (eM a (kQ l s u v E l.length 0)),())) ?_ ?_
 rotate_left
 ·rintro _ rfl;refine bv.2 ?_;have:eM a (kQ l s u v E l.length 0)=eM a λc e=>if c∈l/\e∈l then aA (cM (s c e) (c5 (bk (u c) (v e)))) else E c e:=by
   unfold eM kQ;grind
  grind
 refine bR l.length (λb f=>f=((b:Z),cH R full lf (eM a (kQ l s u v E b 0)),())) ?_ ?_ ?_
 ·grind [df,eM,kQ]
 rotate_left
 ·rintro _ rfl;dsimp only;rw[x,a2 (aD (aa:¬(l.length:Z)<(l.length:Z)))];grind [bv]
 rintro b _ g rfl;dsimp only;rw[x,a7 (aH (aa:(b:Z)<(l.length:Z))),bg aa];have k:=b6 g;have B:=w _ k;refine bA (q b g) ?_;refine bG (P:=λf=>f=(cH R full lf (eM a (kQ l s u v E b l.length)),())) ?_ ?_
 rotate_left
 ·rintro _ rfl;refine bv.2 ?_;have:eM a (kQ l s u v E b l.length)=eM a (kQ l s u v E (b+1) 0):=by
   unfold eM kQ;refine df λc _=>df λe _=>?_;have:(c∈l.take b/\e∈l\/l[b]?=Y c/\e∈l.take l.length)↔(c∈l.take (b+1)/\e∈l\/l[b+1]?=Y c/\e∈l.take 0):=(by rw[h2,jP,cE g];grind);grind
  grind
 refine bR l.length (λd f=>f=((d:Z),cH R full lf (eM a (kQ l s u v E b d)),())) rfl ?_ ?_
 rotate_left
 ·rintro _ rfl;dsimp only;rw[a2 (aD (aa:¬(l.length:Z)<(l.length:Z)))];grind [bv]
 rintro d _ j rfl;dsimp only;rw[a7 (aH (aa:(d:Z)<(l.length:Z))),bg aa];have m:=b6 j;have C:=w _ m;have V:l[b]∉l.take b:=λD=>(by grind [ang,anR]);have U:l[d]∉l.take d:=λD=>(by grind [ang,anR]);have F:kQ l s u v E b d l[b] l[d]=aA (s l[b] l[d]):=(by simp_all [b8,kQ]);obtain⟨K,o,ad,eD,L⟩:=aay (E:=kQ l s u v E b d) B C (aA (cM (s l[b] l[d]) (c5 (bk (u l[b]) (v l[d])))));rw[F] at eD;have Q:(eM a (kQ l s u v E b d)).length=a:=cI _ _;have A:(cH R full lf (eM a (kQ l s u v E b d))).2.2.2.1=eM a (kQ l s u v E b d):=rfl;have r:=e9 (n:=(eM a (kQ l s u v E b d)).length) (i:=l[b]) aa;have t:=e9 (n:=K.length) (i:=l[d]) aa;refine bA (q d j) ?_;rw[A];refine bA r (bA r ?_);rw[hb o,bN];refine bA t ?_;rw[hb o,hb eD,bN];refine bA (y u b g) (bA (y v d j) (bA (oZ (H _ k) (I _ m)) (bA (EX (G _ k _ m) (oi _ _)) ?_)));refine bA t ?_;rw[hb o,hb eD];refine bv.2 ?_;dsimp only;rw[L];have:(eM a λc e=>if c=l[b]/\e=l[d] then aA (cM (s l[b] l[d]) (c5 (bk (u l[b]) (v l[d])))) else kQ l s u v E b d c e)=eM a (kQ l s u v E b (d+1)):=by
  unfold eM kQ;refine df λc _=>df λe _=>?_;dsimp only;by_cases p:c=l[b]/\e=l[d]
  ·obtain⟨rfl,rfl⟩:=p;rw[au (show l[b]=l[b]/\l[d]=l[d] from⟨bn,bn⟩),au];grind [aoe,alh,ali,bX]
  rw[ar p];grind [ali,bX,alh,amu]
 rw[<-this];rfl
section
def hT {α:Type} (l:ak9) (f g:X->X->α) (c d a b:X):α:=if(a∈l.take c/\b∈l)\/(l[c]?=Y a/\b∈l.take d) then f a b else g a b
section
variable {α:Type} {l:ak9} {f g:X->X->α}
theorem Oq:hT l f g 0 0=g:=by grind [hT]
theorem Oo (c:a<l.length):hT l f g a l.length=hT l f g (a+1) 0:=by funext i b;unfold hT;have:(i∈l.take a/\b∈l\/l[a]?=Y i/\b∈l.take l.length)↔(i∈l.take (a+1)/\b∈l\/l[a+1]?=Y i/\b∈l.take 0):=(by rw[h2,jP,cE c];grind);grind
theorem Ol:hT l f g l.length 0=λa b=>if a∈l/\b∈l then f a b else g a b:=by grind [hT]
theorem On (e:l.Nodup) (c:a<l.length) (d:b<l.length):hT l f g a b l[a] l[b]=g l[a] l[b]:=by unfold hT;rw[ar];grind [anR,ang]
theorem Om (h:a<l.length) (i:b<l.length):hT l f g a (b+1)=λc d=>if c=l[a]/\d=l[b] then f l[a] l[b] else hT l f g a b c d:=by
 funext c d;unfold hT;by_cases e:c=l[a]/\d=l[b]
 ·obtain⟨rfl,rfl⟩:=e;rw[au (show l[a]=l[a]/\l[b]=l[b] from⟨bn,bn⟩),au];grind [aoe,alh,ali,bX]
 rw[ar e];grind [ali,bX,alh,amu]
end
def gY (a:ak9) (b:X->X->gB):bm (bm gB):=a.map λc=>a.map λd=>b c d
theorem T1 (a:ak9) (b:X->X->gB):(gY a b).length=a.length:=dh _
theorem L1 (d:X->X->gB) (e:f[g]?=Y a) (h:f[v]?=Y b):∃c,(gY f d)[g]?=Y c/\c.length=f.length/\c[v]?=Y (d a b):=by simp_all [j3,dh,gY]
theorem Ts (j:f.Nodup) (h:f[a]?=Y b) (g:X->k) (d:k):(f.map g).set a d=f.map λc=>if c=b then d else g c:=by
 refine ie λi=>?_;rw[zC,j3,j3,dh];have l:a<f.length:=(h0.1 h).1;by_cases e:a=i
 ·grind
 rw[ar e];grind [an7]
theorem T2 (i:f.Nodup) (c:X->X->gB) (l:f[b]?=Y a) (m:f[v]?=Y g) (j:gB) {h:bm gB} (n:(gY f c)[b]?=Y h):(gY f c).set b (h.set v j)=gY f λe d=>if e=a/\d=g then j else c e d:=by have k:h=f.map λd=>c a d:=(by grind [alU,gY]);subst k;rw[Ts i m];unfold gY;rw[Ts i l];refine iU λe _=>?_;grind
theorem T0 {a b:X->X->gB} (e:∀c∈f,∀d∈f,a c d=b c d):gY f a=gY f b:=by grind [alA,gY]
theorem O1 (a:ak9) (g:X->k):az a.length (λb=>g (a.getD b 0))=a.map g:=by unfold az;refine ie λc=>?_;grind
theorem aaz (a:ak9) (b:X->X->gB):eM a.length (λc d=>b (a.getD c 0) (a.getD d 0))=gY a b:=by grind [alA,O1,gY,az,eM]
end
section
section
variable {G:eu} {l:bm eE} {n t:X} {L:X->a9} {ps:bm aK} {A:X->X->eA}
theorem NT (l:bm eE) (t a:X):e5 l (t+1) a=if gF l t=(a:Z) then e5 l t a++[t] else e5 l t a:=by grind [alG,gF,e5]
theorem q2 (c:a<f.length):aw (cZ f) (a:Z)=Y ((f[a]:X):Z):=by rw[h7];show(f.map λ(b:X)=>(b:Z))[a]?=_;grind
theorem yY (c:a<f.length) (b:Z->bu k):rd (cZ f) (a:Z) b=b ((f[a]:X):Z):=by simp_all [jG,e9,aI,hb,q2,h7,cZ,rd]
end
end
theorem QD {c:Type} {p:c->bz} {d:c}:∀{e:bm c},d∈e.takeWhile p->p d=bp
 |[],a=>by cases a
 |b::e,a=>by
  rw[List.takeWhile_cons] at a;split at a
  ·rcases fF.1 a with rfl|a
   ·omega
   exact QD a
  grind
def qW (a:X->X) (c:X) (d:ak9):ak9:=d.takeWhile (λb=>br (a b<a c))++c::d.dropWhile (λb=>br (a b<a c))
def rn (a:X->X) (b:ak9):ak9:=b.foldl (λd c=>qW a c d) []
abbrev iT:=ak9×(X->Z)
def aK.eO (a:aK):bm iT:=a.l.map λb=>(a.rows,b)
def lY (b:iT->ala) (a:bm iT):ala:=(bI (a.length+1)).map λc=>(((a.take c).flatMap b).length:Z)
def gy (a:X->X) (b:iT):ala:=(rn a b.1).map λc=>(a c:Z)
def ka (b:X->X) (a:iT):ala:=(rn b a.1).map a.2
def pO (c:ala) (a:bm aK) (del:Z):fy:=
 ((
  a.flatMap aK.a1).map (λb=>c.getD b 0),(a.map (λe=>(e.a1.length:Z)),(a.flatMap (·.d),
  (lY (gy λb=>(a.flatMap aK.a1).idxOf b) (a.flatMap aK.eO),((a.flatMap aK.eO).flatMap (gy λb=>(a.flatMap aK.a1).idxOf b),((a.flatMap aK.eO).flatMap (ka λb=>(a.flatMap aK.a1).idxOf b),(del,())))))))
theorem Wv (b:iT->ala) (a:bm iT) (c:iT):lY b (a++[c])=lY b a++[(((a++[c]).flatMap b).length:Z)]:=by
 unfold lY;rw[hI,nU,jq,jC];congr 1
 ·grind [alA]
 grind
theorem Za (a:X->X) (c:X) (b:ak9):(qW a c b).length=b.length+1:=by unfold qW;have e:=b3 cz (apL (p:=λd=>br (a d<a c)) (l:=b));grind
def TI (c:X->X):∀(b a:ak9),(b.foldl (λa p=>qW c p a) a).length=a.length+b.length
 |[],a=>rfl
 |p::b,a=>by rw[aoE,TI c b,Za,iH];omega
theorem GP (b:X->X) (a:ak9):(rn b a).length=a.length:=by unfold rn;rw[TI,qs,mm]
theorem Ye (c:iT->bm k) {a:bm iT} (d:∀b∈a,(c b).length<=100):(a.flatMap c).length<=100*a.length:=by
 induction a with
 |nil=>grind
 |cons b a e=>
  grind
theorem Mg (c:X->Z) (f:a<b) (e:Z) (d:ala->bu k):wr (az b c) (a:Z) e d=d (az b (eG c a e)):=by simp_all [cI,e9,aI,hb,gV,ho,wr]
def BY (c:X->Z) (d:a<b) (e:Z->bu k):rd (az b c) (a:Z) e=e (c a):=by unfold rd;rw[cI,e9 d,aI,hb (gV d),aI]
theorem Sm {a:bm aK} (e:∀b∈a,xf f b):a.length<=(a.flatMap aK.a1).length/\(a.flatMap aK.d).length<=3*a.length/\(a.flatMap aK.eO).length=(a.flatMap aK.a1).length:=by
 induction a with
 |nil=>grind
 |cons b a h=>
  obtain⟨i,j,k⟩:=h λg o=>e g (by grind);have c:=e b ac;have l:=c.at1;have m:=c.dl;have n:b.eO.length=b.a1.length:=(by unfold aK.eO;rw[dh,c.len]);grind
structure lP where
 R:ak9
 full:X
 lf:ak6
 M:bm (bm gB)
def lP.enc (a:lP):bu c6:=Y (cH a.R a.full a.lf a.M)
def lP.ok (a:lP):Prop:=a.lf.length=a.R.length/\a.full<=a.R.length/\a.R.length<=100
def kY (b:bm lP):ak9:=b.flatMap λa=>fq a.R a.lf a.full
theorem J3 (b:ak9) (lf:ak6) (a:X):(fq b lf a).length<=a:=by grind [cx,alF,b9,fq]
theorem NO {l:bm lP} (b:∀a∈l,a.ok):(kY l).length<=100*l.length:=by
 induction l with
 |nil=>exact bc _
 |cons a l d=>
  have f:=d λc j=>b c (by grind);obtain⟨_,g,h⟩:=b a ac;have i:=J3 a.R a.lf a.full;have e:kY (a::l)=fq a.R a.lf a.full++kY l:=rfl;grind
theorem afF {l:bm lP} (e:∀a∈l,a.ok) (w:l.length<=100) {F L:X} {rows:ala} {par:Z} (s:F<=L) (t:L<=1000) (z:L-F<=rows.length) (A:rows.length<=1000):DP (((F:Z),((L:Z),(rows,(par,())))),l.map lP.enc,())=Y (cZ (kY l++alw F (L-F))++rows.drop (L-F),((kY l++alw F (L-F)).length:Z),()):=by
 have u:=NO e;unfold DP;refine bO.1 ?_;dsimp only;refine bG (P:=λd=>d=(cZ (kY l),())) ?_ ?_
 ·refine bR l.length (λc d=>d=((c:Z),cZ (kY (l.take c)),())) rfl ?_ ?_
  rotate_left
  ·rintro _ rfl;dsimp only;rw[a2 (aD (show¬(l.length:Z)<ao (l.map lP.enc) by grind)),cy];grind [bv]
  rintro c _ k rfl;dsimp only;rw[a7 (aH (show(c:Z)<ao (l.map lP.enc) by grind)),bg aa];have f:=e _ (b6 k);have v:=NO (l:=l.take c) λa f=>e a (aqX f);have B:(l.take c).length<=c:=(by grind);have j:kY (l.take (c+1))=kY (l.take c)++fq l[c].R l[c].lf l[c].full:=(by grind [ali,bX,kY]);rw[j];refine bA (y:=l[c].enc) (by grind [h7,bX]) ?_;generalize l[c]=a at*;obtain⟨o,p,q⟩:=f;refine bA (y:=cH a.R a.full a.lf a.M) rfl ?_;refine bG (P:=λd=>d=(cZ (kY (l.take c)++fq a.R a.lf a.full),())) ?_ (by grind [bv]);refine bR a.full (λb d=>d=((b:Z),cZ (kY (l.take c)++fq a.R a.lf b),())) ?_ ?_ ?_
  ·rw[show fq a.R a.lf 0=[] from rfl,pq];rfl
  rotate_left
  ·rintro _ rfl;dsimp only;rw[a2 (aD (show¬(a.full:Z)<(cH a.R a.full a.lf a.M).2.1 from aqW _))];grind [bv]
  rintro b _ i rfl;dsimp only;rw[a7 (aH (show(b:Z)<(cH a.R a.full a.lf a.M).2.1 by show(b:Z)<(a.full:Z);omega)),bg aa];have g:aw (cH a.R a.full a.lf a.M).2.2.1 (b:Z)=Y (a.lf.getD b bq):=(by rw[h7];show a.lf[b]?=_;grind);have h:aw (cH a.R a.full a.lf a.M).1 (b:Z)=Y ((a.R.getD b 0:X):Z):=(by rw[h7];show(a.R.map λ(n:X)=>(n:Z))[b]?=_;grind);have x:=J3 a.R a.lf b;refine bG (P:=λd=>d=(cZ (kY (l.take c)++fq a.R a.lf (b+1)),())) ?_ (by grind [bv]);refine bA (y:=cH a.R a.full a.lf a.M) rfl (bA g ?_);rw[yx];cases r:a.lf.getD b bq with
  |false=>
   rw[bP,ar ab];grind [bv]
  |true=>
   rw[bF,au bn];refine bA (y:=cH a.R a.full a.lf a.M) rfl (bA h ?_);rw[e3 (by grind [jG]),aI];refine bv.2 ?_;rw[<-lQ,wg (kY (l.take c)++fq a.R a.lf b)];rfl
 rintro _ rfl;dsimp only;refine bG (P:=λd=>d=(cZ (kY l++alw F (L-F)),())) ?_ ?_
 ·refine bR (L-F) (λb d=>d=(((F+b:X):Z),cZ (kY l++alw F b),())) ?_ ?_ ?_
  ·grind
  ·rintro b _ i rfl;dsimp only;rw[a7 (aH (aa:((F+b:X):Z)<(L:Z))),bg aa];rw[e3 (by grind [jG]),bN];refine bv.2 ?_;rw[aqY,<-amD,wg (kY l++alw F b),aoz];rfl
  rintro _ rfl;dsimp only;rw[a2 (aD (aa:¬(((F+(L-F):X):Z)<(L:Z))))];grind [bv]
 rintro _ rfl;dsimp only;have m:ay ((L:Z)-(F:Z))=((L-F:X):Z):=(by grind [cG]);rw[m];refine bA (y:=(L-F,rows.length)) ?_ ?_
 ·simp_all [au,bc,FW,hX]
 dsimp only;rw[cy,e3 (by grind [jG]),bN];grind [bb,jG,bv]
section
def Qf (R:ak9) (lf:ak6) (a:X):(fq R lf a).length=(e1 lf a).length:=by rw[FK,dh]
theorem ZT (R:ak9) (lf:ak6) (d:a<b) (h:lf.getD a bq=bp):(fq R lf b)[(e1 lf a).length]?=Y (R.getD a 0):=by obtain⟨e,c⟩:=J2 R lf (a+1) (b-(a+1));rw[(aa:a+1+(b-(a+1))=b)] at c;simp_all [yx,au,lQ,rD,Qf,bc,amm]
theorem FV {R:ak9} (h:R[a]?=Y b):(cZ R)[a]?=Y (b:Z):=by show(R.map λ(c:X)=>(c:Z))[a]?=_;grind
theorem K9 {R:ak9} (i:R.Nodup) (j:R.length<=1000) (h:a∈R):AB (cZ R,(a:Z),())=Y (((R.idxOf a:X):Z),())/\R[R.idxOf a]?=Y a:=by have b:R[R.idxOf a]?=Y a:=(by grind);refine⟨Y4 (by grind [jG]) (FV b) λc k e=>?_,b⟩;have f:c<R.length:=(by grind);have d:=FV (cE f);rw[d] at e;have g:R[c]=a:=(by grind);grind
section
variable {R:ak9} {full:X} {lf:ak6} {h:X->X->gB}
theorem ZE (A:R.Nodup) (E:R.length<=1000) {c:ak9} {d:ak6} {h:a9} (t:jB c a d o h) (dl:∀b∈h.rows,b∈R) {g:X->X->eA} (cs:∀b e,c4 (g b e)):DI (cH R full lf (gY R λb e=>aA (g b e)),Y (cH c a d o),())=Y (cH R full lf (gY R λb e=>if b∈h.rows/\e∈h.rows then aA (cM (g b e) (h.s b e)) else aA (g b e)),()):=by
 have d6:=t.sm;have d9:=t.ll;have av:=t.rows;have dg:h.rows.Nodup:=(by rw[av];unfold fq;rw[aoC,List.pairwise_map];refine(arv ?_ ((aoF (n:=c.length)).sublist List.filter_sublist));intro d3 d4 B C bx a0;exact bx ((t.inj (anh.1 (aqZ.1 B).1) (anh.1 (aqZ.1 C).1)).1 a0));have F:∀b,b<c.length->d.getD b bq=bp->c.getD b 0∈R:=λb k m=>dl _ (t.mem k m);have M:ao (cH c a d o).1=(c.length:Z):=(by rw[bb];exact b3 _ (jG _));have c1:∀b,b<c.length->aw (cH c a d o).1 (b:Z)=Y ((c.getD b 0:X):Z):=λb k=>(by rw[h7];show(cZ c)[b]?=_;grind [FV,bX]);have V:∀b,b<c.length->aw (cH c a d o).2.2.1 (b:Z)=Y (d.getD b bq):=λb k=>(by rw[h7];show d[b]?=_;grind);unfold DI;refine bO.1 ?_;dsimp only;refine bA (y:=cH c a d o) rfl ?_;rw[M,im aa,bN];refine bA (y:=cH c a d o) rfl ?_;generalize O:cH R full lf (gY R λb e=>aA (g b e))=z;generalize d7:(λb=>if d.getD b bq=bp then(R.idxOf (c.getD b 0):Z) else 0)=l;refine bG (P:=λp=>p=(z,az c.length l,())) ?_ ?_
 ·refine bR c.length (λb p=>p=((b:Z),z,az c.length (λj=>if j<b then l j else 0),())) ?_ ?_ ?_
  ·grind [jk]
  rotate_left
  ·rintro _ rfl;simp_all [df,au,bv,a2,aD,az]
  rintro b _ k rfl;dsimp only;rw[M,a7 (aH (aa:(b:Z)<(c.length:Z))),bg aa];refine bG (P:=λp=>p=(z,az c.length (λj=>if j<b+1 then l j else 0),())) ?_ (by grind [bv]);refine bA (c1 b k) (bA (y:=cH c a d o) rfl (bA (V b k) ?_));have an:∀J,J=l b->az c.length (eG (λj=>if j<b then l j else(0:Z)) b J)=az c.length λj=>if j<b+1 then l j else 0:=λJ eq=>df λj c2=>by
   by_cases g:j=b
   ·simp_all [gH,au]
   rw[g6 _ _ g];omega
  cases m:d.getD b bq with
  |true=>
   rw[bF];have bl:z.1=cZ R:=(by rw[<-O];rfl);refine bA (by rw[bl];exact(K9 A E (F b k m)).1) ?_;dsimp only;rw[Mg _ k,an _ (by grind)];grind [bv]
  |false=>
   rw[bP];refine bv.2 ?_;have a3:l b=0:=(by grind);have:=an 0 a3.symm;rw[<-this];have:(az c.length λj=>if j<b then l j else(0:Z))=az c.length (eG (λj=>if j<b then l j else(0:Z)) b 0):=df λj c2=>by
    by_cases g:j=b
    ·simp_all [gH,ar]
    grind [g6]
   grind
 rintro _ rfl;subst O;dsimp only;generalize co:(λb e=>aA (cM (g b e) (h.s b e)))=q;generalize cv:(λb e=>aA (g b e))=r;have d8:(λb e=>if b∈h.rows/\e∈h.rows then aA (cM (g b e) (h.s b e)) else aA (g b e))=hT h.rows q r h.rows.length 0:=(by grind [Ol]);have ap:h.rows.length=(e1 d c.length).length:=(by rw[av,Qf]);have T:ao (az c.length l)=(c.length:Z):=(by rw[bb,cI]);have I:∀b,b<c.length->d.getD b bq=bp->∃ek:(e1 d b).length<h.rows.length,h.rows[(e1 d b).length]=c.getD b 0:=λb k m=>(by have d5:=ZT c d k m;grind);refine bG (P:=λp=>p=(cH R full lf (gY R (hT h.rows q r h.rows.length 0)),())) ?_ (by grind [bv]);refine bR c.length (λb p=>p=((b:Z),cH R full lf (gY R (hT h.rows q r (e1 d b).length 0)),az c.length l,())) ?_ ?_ ?_
 ·rw[show(e1 d 0).length=0 from rfl,Oq];rfl
 rotate_left
 ·rintro _ rfl;dsimp only;rw[T,a2 (aD (aa:¬(c.length:Z)<(c.length:Z))),ap];grind [bv]
 rintro b _ k rfl;dsimp only;rw[T,a7 (aH (aa:(b:Z)<(c.length:Z))),bg aa];refine bG (P:=λp=>p=(cH R full lf (gY R (hT h.rows q r (e1 d (b+1)).length 0)),az c.length l,())) ?_ (by grind [bv]);refine bR c.length (λe p=>p=((e:Z),cH R full lf (gY R (hT h.rows q r (e1 d b).length (if d.getD b bq=bp then(e1 d e).length else 0))),az c.length l,())) ?_ ?_ ?_
 ·simp_all [e1]
 rotate_left
 ·rintro _ rfl;dsimp only;rw[a2 (aD (aa:¬(c.length:Z)<(c.length:Z)))];refine bv.2 ?_;rw[FJ];by_cases m:d.getD b bq=bp
  ·rw[au m,au m,hI,nU,<-ap];rw[Oo (I b k m).1]
  grind
 rintro e _ u rfl;dsimp only;rw[a7 (aH (aa:(e:Z)<(c.length:Z))),bg aa];refine bG (P:=λp=>p=(cH R full lf (gY R (hT h.rows q r (e1 d b).length (if d.getD b bq=bp then(e1 d (e+1)).length else 0))),az c.length l,())) ?_ (by grind [bv]);generalize N:gY R (hT h.rows q r (e1 d b).length (if d.getD b bq=bp then(e1 d e).length else 0))=w;refine bA (y:=(d.getD b bq&&d.getD e bq,cH R full lf w,az c.length l,())) ?_ ?_
 ·refine ai (y:=cH c a d o) rfl (ai (V b k) ?_);cases m:d.getD b bq with
  |true=>
   grind
  |false=>
   grind
 dsimp only;by_cases m:d.getD b bq=bp
 rotate_left
 ·simp_all [ar,bv,ao5,bP]
 by_cases v:d.getD e bq=bp
 rotate_left
 ·simp_all [FJ,ar,bv,Bool.and_false,bP]
 rw[m,v,aoi,bF];obtain⟨B,Q⟩:=I b k m;obtain⟨C,U⟩:=I e u v;rw[ca m] at N;obtain⟨_,G⟩:=K9 A E (F b k m);obtain⟨_,H⟩:=K9 A E (F e u v);have S:l b=((R.idxOf (c.getD b 0):X):Z):=(by grind);have ci:l e=((R.idxOf (c.getD e 0):X):Z):=(by grind);have em:=(al1.1 G).1;have en:=(al1.1 H).1;generalize R.idxOf (c.getD b 0)=d0 at*;generalize R.idxOf (c.getD e 0)=p at*;obtain⟨d1,x,fl,eD⟩:=L1 (hT h.rows q r (e1 d b).length (e1 d e).length) G H;have D:=T2 A (hT h.rows q r (e1 d b).length (e1 d e).length) G H (q (c.getD b 0) (c.getD e 0)) x;have K:=Om (f:=q) (g:=r) B C;rw[Q,U] at K;rw[<-K] at D;have L:=On (f:=q) (g:=r) dg B C;rw[Q,U] at L;rw[L] at eD;have el:w.length=R.length:=(by grind [T1]);rw[N] at x D;have ad:=e9 (n:=w.length) (i:=d0) aa;have am:=e9 (n:=d1.length) (i:=p) aa;obtain⟨d2,ds,ex⟩:=t.ent b e k u m v;have ce:=Ok (cs (c.getD b 0) (c.getD e 0)) (t.okd _ (t.mem k m) _ (t.mem u v));subst co cv;have a4:(cH R full lf w).2.2.2.1=w:=rfl;rw[BY _ k,a4,S];refine bA ad ?_;rw[BY _ u,BY _ k,S];refine bA ad ?_;rw[BY _ u,ci,hb x,bN];refine bA am ?_;rw[hb x,hb eD,bN];refine bA (y:=cH c a d o) rfl (bA (y:=d2) (by rw[h7];exact ds) (bA (y:=aA (h.s (c.getD b 0) (c.getD e 0))) (by grind [h7]) (bA ce ?_)));dsimp only;refine bA am ?_;rw[hb x,hb eD];refine bv.2 ?_;dsimp only;rw[D,FJ,ca v,alO,anU,ca bn];rfl
end
end
theorem aaE (b:∀a∈d,0<=a):cZ (d.map alH)=d:=by
 unfold cZ;rw[qt]
 conv=>rhs;rw[<-List.map_id d]
 refine iU λa c=>?_;grind
theorem PP (c:X->X) (a:X) (b:ak9):(qW c a b).Perm (a::b):=by grind [apL,qW]
theorem TJ (c:X->X):∀(b a:ak9),(b.foldl (λa p=>qW c p a) a).Perm (b++a)
 |[],a=>anf _
 |p::b,a=>by rw[aoE];refine(TJ c b _).trans ?_;grind [List.perm_middle,aoh,PP]
def Ce (b:X->X) (a:ak9):(rn b a).Perm a:=by have:=TJ b a [];rwa[pq] at this
theorem Zb (j:f.Pairwise λb c=>u b<u c) (n:∀b∈f,u b≠u a):(qW u a f).Pairwise λb c=>u b<u c:=by
 unfold qW;have k:∀b∈f.takeWhile (λb=>br (u b<u a)),u b<u a:=λb d=>anD (QD (p:=λb=>br (u b<u a)) d);have l:∀b∈f.dropWhile (λb=>br (u b<u a)),u a<u b:=by
  intro b d;have i:f.dropWhile (λb=>br (u b<u a))≠[]:=List.ne_nil_of_mem d;have h:=List.head_dropWhile_not (λb=>br (u b<u a)) i;rw[apJ] at h;have m:(f.dropWhile λb=>br (u b<u a)).Pairwise λb c=>u b<u c:=j.sublist (aq0 _);have o:∀c∈f.dropWhile (λb=>br (u b<u a)),c∈f:=λc g=>(aq0 _).subset g;generalize f.dropWhile (λb=>br (u b<u a))=e at*;cases e with
  |nil=>cases d
  |cons c e=>
   grind [ant]
 grind [ant,apL]
theorem LM {b:X->X}:∀{e d:ak9},d.Pairwise (λa c=>b a<b c)->(∀a∈d,∀c∈e,b a≠b c)->e.Pairwise (λa c=>b a≠b c)->(e.foldl (λd p=>qW b p d) d).Pairwise λa c=>b a<b c
 |[],d,f,_,_=>f
 |p::e,d,f,i,g=>by rw[aoE];rw[nq] at g;refine LM (Zb f λa h=>i a h p ac) (λa h c j=>?_) g.2;grind [PP]
theorem TF {e:X->X}:∀{a b:ak9},a.Perm b->a.Pairwise (λx d=>e x<e d)->b.Pairwise (λx d=>e x<e d)->a=b
 |[],b,c,_,_=>c.nil_eq
 |x::a,[],c,_,_=>absurd c.length_eq ac
 |x::a,d::b,c,f,g=>by rw[nq] at f g;have h:x=d:=(by grind);subst h;rw[TF (List.perm_cons x|>.1 c) f.2 g.2]
theorem pw.key (a:Z->Z):pw λd e=>br (a d<a e):=⟨λb c g=>by grind,λb c f h i=>by grind⟩
def Zc (c:ala) (a b:Z) (d:bu aM) (e:bu eL):IJ (c,a,b,(d,e,()),())=Fz (λf g=>vu (f,g,d,e,())) c a b:=rfl
def aea (a:ala) (e:Z) (c:bu aM) (d:bu eL) (i:a.length<=12) {b:ala×bt} (f:Fz (λg h=>vu (g,h,c,d,())) a 0 (a.length:Z)=Y b):Ec (a,0,(a.length:Z),e,(c,d,()),())=Y b:=by obtain⟨b,_⟩:=b;unfold Ec;dsimp only;rw[Qp];dsimp only;rw[a7 (aH (show ay ((a.length:Z)-0)<=12 by rw[aop,cG aa aa];omega)),Zc,f];rfl
def WG (i:∀c∈f,c<a) (e:b<f.length) (h:g<f.length):vu ((b:Z),(g:Z),Y (az a λc=>(u c:Z)),Y (cZ f,d,()),())=Y (gb (u f[b]:Z) (u f[g]:Z),()):=by unfold vu;refine ai (y:=az a λc=>(u c:Z)) rfl (ai (y:=(cZ f,d,())) rfl (ai (q2 e) (ai (sg (i _ (cL e))) ?_)));refine ai (y:=az a λc=>(u c:Z)) rfl (ai (y:=(cZ f,d,())) rfl (ai (q2 h) (ai (sg (i _ (cL h))) ?_)));exact ai (C9 _ _) rfl
theorem WH:gb c j<0↔c<j:=by grind [gb]
theorem agp {n:X} {f:X->X} {rows:ak9} (N:∀g∈rows,g<n) (M:rows.length<=12) (o:rows.Pairwise λd c=>f d≠f c) (w:ala):∃b:ak9,D9 (cZ (bI rows.length),(Y (az n λg=>(f g:Z)),Y (cZ rows,w,()),()),())=Y (cZ b,())/\(∀a∈b,a<rows.length)/\b.length=rows.length/\b.map (λa=>rows.getD a 0)=rn f rows:=by
 have s:(cZ (bI rows.length)).length=rows.length:=(by rw[jG,oI]);obtain⟨⟨b,⟨⟩⟩,G,y,C,B,e⟩:=Y9 (cmp:=λh x=>vu (h,x,Y (az n λg=>(f g:Z)),Y (cZ rows,w,()),())) (pw.key λh=>(f (rows.getD h.toNat 0):Z)) (cZ (bI rows.length)) (by
  intro h x j I;obtain⟨d,l,rfl⟩:=eS.1 j;obtain⟨c,m,rfl⟩:=eS.1 I;simp_all [ky,cE,WH,alB,WG,fN]) aa
 dsimp only at C e;obtain⟨c,m⟩:=MC rows.length aa;have P:b=cZ (b.map alH):=(aaE λh j=>by
  obtain⟨Q,_,rfl⟩:=eS.1 (e.mem_iff.1 j);omega).symm
 have F:(b.map alH).Perm (bI rows.length):=(by have:=e.map alH;rwa[show(cZ (bI rows.length)).map alH=bI rows.length by simp[cZ,Function.comp_def]] at this);have D:∀a∈b.map alH,a<rows.length:=λa i=>anh.1 (F.mem_iff.1 i);have E:(b.map alH).map (λa=>rows.getD a 0)=rn f rows:=(by have J:((bI rows.length).map λa=>rows.getD a 0)=rows:=(by refine List.ext_getElem? λa=>?_;grind);have k:((b.map alH).map λa=>rows.getD a 0).Perm rows:=(by grind);have t:((b.map alH).map λa=>rows.getD a 0).Pairwise λd c=>f d≠f c:=(k.symm.pairwise o λz=>z.symm);refine TF (k.trans (Ce f rows).symm) ?_ (LM ans (λd l=>by cases l) o);rw[cA] at t|-;intro u v p r q;have O:b.length=rows.length:=(by rw[e.length_eq,s]);have K:=t u v p r q;simp only[b9] at p r;have A:=B u v q aa;rw[apJ] at A;have L:∀a,(i:a<b.length)->y a=b[a]:=λa i=>(by grind [alU,gV,bX,az,cZ,bI]);grind);refine⟨b.map alH,?_,D,by rw[b9,e.length_eq,s],E⟩;unfold D9;have H:aL (ao (cZ (bI rows.length)))=(rows.length:Z):=(by grind [Mj,bb]);dsimp only;rw[H];refine ai m ?_;dsimp only;rw[bb];refine ai (aea _ c _ _ aa G) ?_;grind
def h6 (a:iT):eL:=(cZ a.1,a.1.map a.2,())
theorem aeh (bl:p.length=a) (em:a<=12) {r:bm aK} (F:(r.flatMap aK.a1).Perm (bI a)) (G:∀k∈r,xf (bI a) k) (del:Z) (co:bu (Z×((bm aM×bt)×(bm (bu (bm (Z×cS)×X))×bt)))):DR (Y (co,(cZ (r.flatMap aK.a1),(r.map (λk=>(k.a1.length:Z)),(r.flatMap (·.d),((r.flatMap aK.eO).map h6,(del,())))))),p,())=Y (pO p r del,()):=by
 obtain⟨fn,fp,fr⟩:=Sm G;have T:(r.flatMap aK.a1).length=a:=(by rw[F.length_eq,aox]);have d5:(r.flatMap aK.a1).Nodup:=F.nodup_iff.2 aoF;have I:∀e,e∈r.flatMap aK.a1↔e<a:=λe=>(by rw[F.mem_iff,anh]);have C:∀t∈r.flatMap aK.eO,t.1.Nodup/\∀o∈t.1,o<a:=λt u=>(by obtain⟨k,N,u⟩:=anV.1 u;obtain⟨j,_,rfl⟩:=List.mem_map.1 u;exact⟨(G k N).nd,λo x=>anh.1 ((G k N).sub o x)⟩);unfold DR pO;refine bO.1 ?_;dsimp only;generalize d4:r.flatMap aK.a1=i at*;generalize d2:r.flatMap aK.eO=h at*;generalize r.map (λk=>(k.a1.length:Z))=iu;generalize r.flatMap (·.d)=v;rw[show ao p=(a:Z) by rw[bb,bl],im aa,bN,bN,bN,bN,bN];dsimp only;have U:ao (cZ i)=(a:Z):=(by rw[bb,jG,T]);refine bG (P:=λk=>k=(([],([],([],([],([],([],((0:Z),()))))))),az a (λe=>(i.idxOf e:Z)),(i.map (λe=>p.getD e 0),(iu,(v,([0],(([]:aM),(([]:aM),(del,()))))))),())) ?_ ?_
 ·refine bR a (λb k=>k=((b:Z),([],([],([],([],([],([],((0:Z),()))))))),az a (λe=>if e∈i.take b then(i.idxOf e:Z) else 0),((i.take b).map (λe=>p.getD e 0),(iu,(v,([0],(([]:aM),(([]:aM),(del,()))))))),())) ?_ ?_ ?_
  ·grind [jk,df]
  ·rintro b _ B rfl;dsimp only;have M:b<i.length:=aa;rw[U,a7 (aH (aa:(b:Z)<(a:Z))),bg aa];have bx:i[b]<a:=(I _).1 (b6 M);have a3:i.idxOf i[b]=b:=by
    grind
   refine bA (q2 M) ?_;rw[Mg _ bx];refine bA (hG aa) ?_;rw[e3 (by grind),aI];refine bv.2 ?_;have al:i.take (b+1)=i.take b++[i[b]]:=(by simp_all);have d0:(az a (eG (λe=>if e∈i.take b then(i.idxOf e:Z) else 0) i[b] (b:Z)))=az a λe=>if e∈i.take (b+1) then(i.idxOf e:Z) else 0:=by
    refine df λe en=>?_;rw[al];by_cases A:e=i[b]
    ·rw[A,gH,au (ln _ (gq.2 bn)),a3]
    grind [g6,alh]
   grind
  rintro _ rfl;simp_all [df,au,bv,a2,aD,fU,az]
 rintro _ rfl;dsimp only;have el:∀j z,j<a->z<a->i.idxOf j=i.idxOf z->j=z:=λj z V d7 dl=>(by have S:=aoG (List.idxOf_lt_length_iff.2 ((I j).2 V));grind);generalize am:(λe=>i.idxOf e)=g at*;have an:(λe=>(i.idxOf e:Z))=λe=>(g e:Z):=(by grind);have d9:∀e,i.idxOf e=g e:=λe=>(by rw[<-am]);rw[an];generalize i.map (λe=>p.getD e 0)=y;rw[bN];dsimp only;have J:ao (h.map h6)=(h.length:Z):=(by grind);have ce:∀t∈h,t.1.length<=12:=λt u=>(by have:=(C t u).1.length_le_of_subset (l₂:=bI a) λo x=>anh.2 ((C t u).2 o x);grind);have ad:∀q:bm iT,(∀t∈q,t∈h)->q.length<=100->(q.flatMap (gy g)).length<=10000/\(q.flatMap (ka g)).length<=10000:=λq S d1=>(by grind [Ye,b9,GP,ka,gy]);refine bG (P:=λk=>k=(([],([],([],([],([],([],((0:Z),()))))))),(y,(iu,(v,(lY (gy g) h,(h.flatMap (gy g),(h.flatMap (ka g),(del,()))))))),())) ?_ (by grind [bv]);refine bR h.length (λb k=>k=((b:Z),([],([],([],([],([],([],((0:Z),()))))))),az a (λe=>(g e:Z)),(y,(iu,(v,(lY (gy g) (h.take b),((h.take b).flatMap (gy g),((h.take b).flatMap (ka g),(del,()))))))),())) rfl ?_ ?_
 rotate_left
 ·rintro _ rfl;dsimp only;rw[J,a2 (aD (aa:¬(h.length:Z)<(h.length:Z))),cy];grind [bv]
 rintro b _ B rfl;dsimp only;rw[J,a7 (aH (aa:(b:Z)<(h.length:Z))),bg aa];have K:=b6 B;have a4:h.take (b+1)=h.take b++[h[b]]:=(by simp_all);have ap:aw (h.map h6) (b:Z)=Y (h6 h[b]):=(by grind [h7,bX]);obtain⟨c2,dg⟩:=ad (h.take b) (λt u=>aqX u) (by grind);have w:=C _ K;have D:=ce _ K;have ex:(lY (gy g) (h.take b)).length<=1000:=(by grind [b9,aox,alD,lY]);have eq:=Wv (gy g) (h.take b) h[b];rw[a4];generalize h[b]=t at*;generalize h.take b=q at*;refine bA ap ?_;obtain⟨c,j⟩:=t;have D:c.length<=12:=D;have w:c.Nodup/\∀o∈c,o<a:=w;have ci:ao (h6 (c,j)).1=(c.length:Z):=(by rw[bb];exact b3 _ (jG _));rw[ci,im aa,bN];have O:ao (bJ c.length (0:Z))=(c.length:Z):=(by grind);generalize d8:((y,(iu,(v,(lY (gy g) q,(q.flatMap (gy g),(q.flatMap (ka g),(del,()))))))):fy)=H;refine bG (P:=λk=>k=(([],([],([],([],([],([],((0:Z),()))))))),az a (λe=>(g e:Z)),H,h6 (c,j),cZ (bI c.length),())) ?_ ?_
 ·refine bR c.length (λo k=>k=((o:Z),([],([],([],([],([],([],((0:Z),()))))))),az a (λe=>(g e:Z)),H,h6 (c,j),az c.length (λb=>if b<o then(b:Z) else 0),())) ?_ ?_ ?_
  ·grind [jk]
  ·rintro o _ x rfl;dsimp only;rw[O,a7 (aH (aa:(o:Z)<(c.length:Z))),bg aa,Mg _ x];refine bv.2 ?_;have:az c.length (eG (λb:X=>if b<o then(b:Z) else 0) o (o:Z))=az c.length λb=>if b<o+1 then(b:Z) else 0:=df λb _=>by
    by_cases A:b=o
    ·subst A;rw[gH,au aa]
    rw[g6 _ _ A];omega
   grind
  rintro _ rfl;dsimp only;rw[O,a2 (aD (aa:¬(c.length:Z)<(c.length:Z)))];refine bv.2 ?_;have:(az c.length λb:X=>if b<c.length then(b:Z) else 0)=cZ (bI c.length):=df λb B=>ca B;grind
 rintro _ rfl;dsimp only;obtain⟨s,cs,cv,c1,aV⟩:=agp (n:=a) (f:=g) (rows:=c) w.2 D (by
  refine rz ?_ w.1;grind) (c.map j)
 refine bA cs ?_;dsimp only;have R:ao (cZ s)=(c.length:Z):=(by rw[bb,jG,c1]);have d3:∀m,m<s.length->(gy g (c,j))[m]?=Y (g (c.getD (s.getD m 0) 0):Z):=λm L=>(by grind [bX,gy]);have d6:∀m,m<s.length->(ka g (c,j))[m]?=Y (j (c.getD (s.getD m 0) 0)):=λm L=>(by grind [bX,ka]);have ek:(gy g (c,j)).length=c.length:=(by grind [b9,GP,gy]);have fl:(ka g (c,j)).length=c.length:=(by grind [b9,GP,ka]);refine bG (P:=λk=>k=(([],([],([],([],([],([],((0:Z),()))))))),az a (λe=>(g e:Z)),(y,(iu,(v,(lY (gy g) q,(q.flatMap (gy g)++gy g (c,j),(q.flatMap (ka g)++ka g (c,j),(del,()))))))),())) ?_ ?_
 ·refine bR c.length (λm k=>k=((m:Z),([],([],([],([],([],([],((0:Z),()))))))),az a (λe=>(g e:Z)),(y,(iu,(v,(lY (gy g) q,(q.flatMap (gy g)++(gy g (c,j)).take m,(q.flatMap (ka g)++(ka g (c,j)).take m,(del,()))))))),h6 (c,j),cZ s,())) ?_ ?_ ?_
  ·grind
  ·rintro m _ L rfl;dsimp only;have E:m<s.length:=aa;rw[R,a7 (aH (aa:(m:Z)<(c.length:Z))),bg aa,yY E];have Q:=cv _ (b6 E);have av:aw (h6 (c,j)).1 ((s[m]:X):Z)=Y ((c[s[m]]:X):Z):=q2 Q;have a0:aw (h6 (c,j)).2.1 ((s[m]:X):Z)=Y (j c[s[m]]):=by
    rw[h7];show(c.map j)[s[m]]?=_;grind
   refine bA av ?_;rw[BY _ (w.2 _ (cL Q)),e3 (by grind),aI];refine bA a0 ?_;rw[e3 (by grind),aI];refine bv.2 ?_;have ds:c.getD (s.getD m 0) 0=c[s[m]]:=(by rw[ky (l:=s),cE E];grind);grind [amD,ali]
  rintro _ rfl;dsimp only;rw[R,a2 (aD (aa:¬(c.length:Z)<(c.length:Z))),ch aa,ch aa];grind [bv]
 rintro _ rfl;dsimp only;rw[e3 (by grind),bN];grind [bb,bv]
section
theorem Qh (b:ak9):∀{a},a<=b.length->fq b (bJ b.length bp) a=b.take a:=by
 intro a
 induction a with
 |zero=>intro _;rfl
 |succ a c=>
  intro d;rw[yx,c aa,au (by grind),jP,cE aa,ky,cE aa];rfl
theorem jB.start {a:a9} (b:lL a) (g:a.rows.length<=1000):jB a.rows a.full (bJ a.rows.length bp) (gY a.rows λc d=>aA (a.s c d)) a where
 ll:=sW ..
 nd:=b.nd
 sm:=g
 fl:=b.full
 rows:=by rw[Qh _ (bc _),h2]
 full:=by rw[Qh _ b.full,gu];have:=b.full;omega
 okd:=b.okd
 ent:=λc d e f _ _=>by obtain⟨j,h,_,i⟩:=L1 (λc d=>aA (a.s c d)) (cE e) (cE f);grind
section
variable {G:eu} {l:bm eE} {n t:X} {L:X->a9} {ps:bm aK} {A:X->X->eA}
theorem Xo (d:jL n l t):(ir l (t:Z)).drop (iD l t)=cZ (mH l t):=by
 refine ie λa=>?_;have c:(cZ (mH l t))[a]?=((mH l t)[a]?).map λ(b:X)=>(b:Z):=(by show((mH l t).map λ(b:X)=>(b:Z))[a]?=_;grind);rw[pt,c];unfold mH;rw[j3];by_cases e:iD l t+a<iC l t
 ·rw[d.get _ e,List.getElem?_range' aa];simp
 grind [am0,List.length_range',iC]
structure MK (n:X) (c:lP) (y:a9):Prop where
 r:jB c.R c.full c.lf c.M y
 len:c.R.length<=n
theorem V4 (K:iw G l) (S:G.length=n) (av:t<l.length) (I:mg l n t L ps) (R:∀b d,c4 (A b d)) (fn:n<=64) {w:X->lP} (J:∀e,e<t->MK n (w e) (L e)) {a3:bu (Z×((bm aM×bt)×(bm (bu (bm (Z×cS)×X))×bt)))} (bx:∀b d:X,b<n->d<n->vE (a3,(b:Z),(d:Z),())=Y (aA (A b d),())):DG (a3,((cJ l t:Z),(cJ l (t+1):Z),ir l (t:Z),gF l t,()),(e5 l t t).map (λe=>(w e).enc),())=Y (cH (hS A l L t).rows (hS A l L t).full (bJ (hS A l L t).rows.length bp) (gY (hS A l L t).rows λb d=>aA ((hS A l L t).s b d)),0,()):=by
 have q:=jL.of K S av;have eq:l.length<=n:=(by have:=Fk K;omega);have V:=xw A L t (l:=l);have T:∀b∈(hS A l L t).rows,b<n:=λb m=>I.zZ A q m;have d6:=I.Nu A R q;have M:=(I.xv R q).nd;have d8:=q.C4;have fr:=q.own;have N:∀e∈e5 l t t,e<t:=λe C=>(By.1 C).1;have d9:(e5 l t t).length<=t:=(by grind [cx,alF,e5]);have dl:(cJ l (t+1)-cJ l t)=iD l t:=rfl;have O:=afF (l:=(e5 l t t).map w) (F:=cJ l t) (L:=cJ l (t+1)) (rows:=ir l (t:Z)) (par:=gF l t) (λe C=>by
  obtain⟨c,z,rfl⟩:=eS.1 C;have:=J c (N c z);exact⟨this.r.ll,this.r.fl,by have:=this.len;omega⟩) (by grind) aa aa (by have:=q.aaZ;grind [iC]) (by have:=q.Hu;grind [iC])
 have co:kY ((e5 l t t).map w)=(e5 l t t).flatMap λe=>(L e).rows.take (L e).full:=(by unfold kY;rw[List.flatMap_map];refine Pf λe C=>?_;exact(J e (N e C)).r.take.symm);rw[List.map_map,co,dl,Xo q] at O;have al:cZ ((e5 l t t).flatMap (λe=>(L e).rows.take (L e).full)++alw (cJ l t) (iD l t))++cZ (mH l t)=cZ (hS A l L t).rows:=(by rw[<-wg,V.1];rfl);have a4:((e5 l t t).flatMap (λe=>(L e).rows.take (L e).full)++alw (cJ l t) (iD l t)).length=(hS A l L t).full:=V.2.symm;rw[al,a4] at O;unfold DG;refine bO.1 ?_;refine bA O ?_;dsimp only;generalize d5:(hS A l L t).rows=a at*;generalize em:(hS A l L t).full=j at*;have ce:ao (cZ a)=(a.length:Z):=(by rw[bb,jG]);rw[ce,a2 (aD (aa:¬(a.length:Z)>64)),im aa,bN,bN];generalize a0:bJ a.length ((bq,((bq,(([]:ala),())),((0:Z),()))):cS)=p;refine bG (P:=λi=>i=(cH a j (bJ a.length bp) (gY a λ_ _=>aA (Y 0)),())) ?_ ?_
 ·refine bR a.length (λb i=>i=((b:Z),cH a j (az a.length λc=>br (c<b)) (az a.length λc=>if c<b then p else[]),())) ?_ ?_ ?_
  ·have x:(az a.length λc=>br (c<0))=bJ a.length bq:=(by grind [df,alK,jk]);have E:(az a.length λc=>if c<0 then p else[])=bJ a.length []:=(by simp_all [df,ar,jk]);rw[x,E];rfl
  ·rintro b _ m rfl;dsimp only;rw[a7 (aH (aa:(b:Z)<(a.length:Z))),bg aa,bN];have c1:(cH a j (az a.length λc=>br (c<b)) (az a.length λc=>if c<b then p else[])).2.2.1=az a.length λc=>br (c<b):=rfl;rw[c1];refine bA (e9 (by grind [cI])) ?_;rw[hb (gV m),ho];refine bA bn ?_;dsimp only;have c2:(cH a j (az a.length λc=>br (c<b)) (az a.length λc=>if c<b then p else[])).2.2.2.1=az a.length λc=>if c<b then p else[]:=rfl
   rw[c2];refine bA (e9 (by grind [cI])) ?_;rw[hb (gV m),ho];refine bA bn ?_;refine bv.2 ?_;have x:az a.length (eG (λc=>br (c<b)) b bp)=az a.length λc=>br (c<b+1):=df λc _=>by
    by_cases u:c=b
    ·grind [gH,alg]
    rw[g6 _ _ u,cB];omega
   have E:az a.length (eG (λc=>if c<b then p else[]) b p)=az a.length λc=>if c<b+1 then p else[]:=df λc _=>by
    by_cases u:c=b
    ·simp_all [gH,au]
    rw[g6 _ _ u];grind
   rw[a0,x,E];rfl
  rintro _ rfl;dsimp only;rw[a2 (aD (aa:¬(a.length:Z)<(a.length:Z)))];refine bv.2 ?_;have x:(az a.length λc=>br (c<a.length))=bJ a.length bp:=(by grind [df,alg,jk]);have E:(az a.length λc=>if c<a.length then p else[])=gY a λ_ _=>aA (Y 0):=(by have bl:(az a.length λc=>if c<a.length then p else[])=az a.length λ_=>p:=df λc z=>ca z;have H:p=a.map λ_=>aA (Y 0):=(by rw[<-a0];exact(List.map_const' ..).symm);rw[bl,O1 a λ_=>p,H];rfl);grind
 rintro _ rfl;dsimp only;generalize en:bJ a.length bp=lf;refine bG (P:=λi=>i=(cH a j lf (gY a λb d=>aA (u7 A l t b d)),())) ?_ ?_
 ·generalize am:(λb d=>aA (u7 A l t b d))=h;generalize cv:(λ(_ _:X)=>aA (Y 0))=k;have cs:gY a h=gY a (hT a h k a.length 0):=by
   rw[Ol];simp_all [T0,au]
  rw[cs];refine bR a.length (λb i=>i=((b:Z),cH a j lf (gY a (hT a h k b 0)),())) ?_ ?_ ?_
  ·rw[Oq];rfl
  rotate_left
  ·rintro _ rfl;dsimp only;rw[a2 (aD (aa:¬(a.length:Z)<(a.length:Z)))];grind [bv]
  rintro b _ m rfl;dsimp only;rw[a7 (aH (aa:(b:Z)<(a.length:Z))),bg aa];refine bG (P:=λi=>i=(cH a j lf (gY a (hT a h k b a.length)),())) ?_ (by grind [bv,Oo]);refine bR a.length (λd i=>i=((d:Z),cH a j lf (gY a (hT a h k b d)),())) rfl ?_ ?_
  rotate_left
  ·rintro _ rfl;dsimp only;rw[a2 (aD (aa:¬(a.length:Z)<(a.length:Z)))];grind [bv]
  rintro d _ v rfl;dsimp only;rw[a7 (aH (aa:(d:Z)<(a.length:Z))),bg aa];refine bG (P:=λi=>i=(cH a j lf (gY a (hT a h k b (d+1))),())) ?_ (by grind [bv]);have fp:=On (f:=h) (g:=k) M m v;have ap:=Om (f:=h) (g:=k) m v;obtain⟨fs,Q,ft,eD⟩:=L1 (hT a h k b d) (bX m) (bX v);have H:=T2 M (hT a h k b d) (bX m) (bX v) (h a[b] a[d]) Q;rw[<-ap] at H;have ex:(gY a (hT a h k b d)).length=a.length:=T1 _ _;have d0:h a[b] a[d]=k a[b] a[d]->gY a (hT a h k b d)=gY a (hT a h k b (d+1)):=λek=>(by rw[ap];refine T0 λd3 _ d4 _=>?_;grind);generalize d7:gY a (hT a h k b d)=D at*;have U:(cH a j lf D).1=cZ a:=rfl;have ci:(cH a j lf D).2.2.2.1=D:=rfl;rw[U,yY m,yY v];have dg:(if((a[d]:X):Z)<((a[b]:X):Z) then((a[d]:X):Z) else((a[b]:X):Z))=((min a[b] a[d]:X):Z):=aa;rw[dg];refine bA (y:=(br (cJ l t<=min a[b] a[d]/\min a[b] a[d]<cJ l (t+1)),cH a j lf D,())) ?_ ?_
  ·by_cases u:cJ l t<=min a[b] a[d]
   ·rw[a7 (by grind)];rw[cB.2 (aa:((min a[b] a[d]:X):Z)<(cJ l (t+1):Z)↔cJ l t<=min a[b] a[d]/\min a[b] a[d]<cJ l (t+1))]
   grind
  dsimp only;by_cases u:cJ l t<=min a[b] a[d]/\min a[b] a[d]<cJ l (t+1)
  ·rw[a7 (aH u),ci];have d2:aA (A a[b] a[d])=h a[b] a[d]:=(by rw[<-am];dsimp only;unfold u7;grind);refine bA (e9 aa) ?_;rw[U,yY m,yY v];refine bA (bx _ _ (T _ (b6 m)) (T _ (b6 v))) ?_;dsimp only;rw[hb Q,bN];refine bA (e9 aa) ?_;rw[hb Q,hb eD,d2];refine bA bn ?_;refine bv.2 ?_;dsimp only;rw[H];rfl
  rw[a2 (aD u)];refine bv.2 ?_;rw[d0 (by rw[<-am,<-cv];dsimp only;unfold u7;grind)]
 rintro _ rfl;dsimp only;have el:∀B:ak9,(B.foldl (λo e=>o.plus (L e)) (mu A l L t)).rows=a:=λB=>(by simp_all [Gk,mu]);have ds:∀(B:ak9) b d,c4 ((B.foldl (λo e=>o.plus (L e)) (mu A l L t)).s b d):=λB=>La L _ _ λb d=>by
  show c4 (if _ then _ else _);split
  ·grind
  exact K3
 refine bG (P:=λi=>i=(cH a j lf (gY a λb d=>aA ((hS A l L t).s b d)),())) ?_ (by grind [bv]);have ad:ao ((e5 l t t).map λe=>(w e).enc)=((e5 l t t).length:Z):=(by grind);refine bR (e5 l t t).length (λc i=>i=((c:Z),cH a j lf (gY a λb d=>aA ((((e5 l t t).take c).foldl (λo e=>o.plus (L e)) (mu A l L t)).s b d)),())) rfl ?_ ?_
 rotate_left
 ·rintro _ rfl;dsimp only;rw[ad,a2 (aD (aa:¬((e5 l t t).length:Z)<((e5 l t t).length:Z))),cy];exact bv.2 bn
 rintro c _ z rfl;dsimp only;rw[ad,a7 (aH (aa:(c:Z)<((e5 l t t).length:Z))),bg aa];have an:=b6 z;refine bA (y:=(w (e5 l t t)[c]).enc) (by grind [h7,bX]) ?_;have d1:∀b∈(L (e5 l t t)[c]).rows,b∈a:=λb m=>(by have:=I.child A K S av an m;grind);have x:=ZE (full:=j) (lf:=lf) M aa (J _ (N _ an)).r d1 (g:=(((e5 l t t).take c).foldl (λo e=>o.plus (L e)) (mu A l L t)).s) (ds _);refine bA x ?_;refine bv.2 ?_;rw[ali,bX z,List.foldl_append];have:(λb d=>if b∈(L (e5 l t t)[c]).rows/\d∈(L (e5 l t t)[c]).rows then aA (cM ((((e5 l t t).take c).foldl (λo e=>o.plus (L e)) (mu A l L t)).s b d) ((L (e5 l t t)[c]).s b d)) else aA ((((e5 l t t).take c).foldl (λo e=>o.plus (L e)) (mu A l L t)).s b d))=λb d=>aA (((((e5 l t t).take c).foldl (λo e=>o.plus (L e)) (mu A l L t)).plus (L (e5 l t t)[c])).s b d):=(by funext b d;show _=aA (if _ then _ else _);grind);simp_all
end
end
def yU (l:Z->bu (cS×bt)) (r:bu c6) (f:aM) (q:cS):bu (eL×gN×Z×bt):=
 (loop (σ:=(Z×eL×eL×gN×bt)) (ρ:=((eL×eL×gN×bt)⊕(eL×gN×Z×bt))) (λ(e,h,a,d,_)=>
  bif br (e<ao f) then
 (aw f e).bind λi=>
 (l i).bind λ(o,_)=>
 (tq (o,q,0,())).bind λ(b,_)=>
 (pJ (b,())).bind λ(p,_)=>
  bif !p then
 Y (.inr (.inr (a,[],233,()))) else
  r.bind λs=>
 (aw s.1 i).bind λc=>
 (cN ((a.1).length+([c]).length)).bind λ_=>
 (cN ((a.2.1).length+([b]).length)).bind λ_=>
 (kZ (b,())).bind λ(g,_)=>
 (cN (d.length+([g]).length)).bind λ_=>
 Y (.inl (aQ e,h,(((a.1++[c]),a.2).1,((((a.1++[c]),a.2).2.1++[b]),((a.1++[c]),a.2).2.2)),(d++[g]),())) else
 Y (.inr (.inl (h,a,d,())))) (0,([],([],())),([],([],())),[],())).bind λm=>match m with
 |.inl (_,j,k,_)=>(
 Y (j,k,0,()))
 |.inr n=>Y n
def aeD (c:bu c6) (a:aM) (b:cS):Iv (c,a,(),b,())=yU (λd=>DO (d,())) c a b:=rfl
def aeE (e:bu c6) (c:aM) (d:cS) (a:bu (bu c6)) (b:eA):Iw (e,c,(a,b,()),d,())=yU (λf=>DN (f,a,b,())) e c d:=rfl
def aeF (g:bu c6) (e:aM) (f:cS) (a:bu (bu (bu c6)×bt)) (b c:eA) (d:bu gN):Ix (g,e,(a,b,c,d,()),f,())=yU (λh=>DK (h,a,b,c,d,())) g e f:=rfl
def aeG (g:bu c6) (e:aM) (f:cS) (a:bu (bu (bu c6)×bt)) (b c:eA) (d:bu gN):Iy (g,e,(a,b,c,d,()),f,())=yU (λh=>DL (h,a,b,c,d,())) g e f:=rfl
def rV (b:ak9) (a:ak9) (c:X->Z):eL:=(cZ (a.map λd=>b.getD d 0),a.map c,())
theorem Gn {d:ak9} {lf:ak6} (w:d.length<=1000) {v:X->eA} (q:c4 O) (n:∀b∈f,b<d.length/\c4 (v b)/\T (b:Z)=Y (aA (v b),())) (z:f.length<=1000):ae (yU T (Y (cH d a lf o)) (cZ f) (aA O)) λj=>((∀b∈f,bh (fi (v b) O 0)≠2047)/\j=(rV d f λb=>fi (v b) O 0,f.map (λb=>aA (aP (fi (v b) O 0))),0,()))\/((∃b∈f,bh (fi (v b) O 0)=2047)/\j.2.2.1=233):=by
 have i:ao (cZ f)=(f.length:Z):=(by rw[bb,jG]);unfold yU;refine bG (P:=λe=>((∀b∈f,bh (fi (v b) O 0)≠2047)/\e=.inl (([],([],())),rV d f λb=>fi (v b) O 0,f.map (λb=>aA (aP (fi (v b) O 0))),()))\/((∃b∈f,bh (fi (v b) O 0)=2047)/\∃k,e=.inr (k,[],233,()))) ?_ ?_
 ·refine bR f.length (λc e=>(∀b∈f.take c,bh (fi (v b) O 0)≠2047)/\e=((c:Z),([],([],())),rV d (f.take c) λb=>fi (v b) O 0,(f.take c).map (λb=>aA (aP (fi (v b) O 0))),())) ⟨ac,bn⟩ ?_ ?_
  ·rintro c _ h ⟨g,rfl⟩;dsimp only;rw[i,a7 (aH (aa:(c:Z)<(f.length:Z))),bg aa];have p:=b6 h;obtain⟨u,l,m⟩:=n _ p;have A:(f.take c).length<=1000:=(by grind);have r:f.take (c+1)=f.take c++[f[c]]:=(by simp_all);refine bA (q2 h) (bA m (bA (Ym l q) (bA (FC (Gm 0)) ?_)));dsimp only;by_cases t:bh (fi (v f[c]) O 0)=2047
   ·rw[a7 (by grind)];grind [bv]
   rw[a2 (by grind)];refine bA (y:=cH d a lf o) rfl (bA (y:=((d.getD f[c] 0:X):Z)) ?_ ?_)
   ·rw[h7];exact FV (by grind)
   have al:(rV d (f.take c) λb=>fi (v b) O 0).1.length<=1000:=(by show(cZ _).length<=1000;grind [jG,b9]);have s:(rV d (f.take c) λb=>fi (v b) O 0).2.1.length<=1000:=(by show((f.take c).map _).length<=1000;grind);rw[e3 (by grind),bN,e3 (by grind),bN];refine bA (q4 (Gm 0)) ?_;dsimp only;rw[e3 (by grind),bN];refine bv.2 ⟨λb x=>?_,?_⟩
   ·grind
   unfold rV;rw[r,jC,jC,jC,wg];rfl
  rintro _ ⟨g,rfl⟩;dsimp only;rw[cy] at g;rw[i,a2 (aD (aa:¬(f.length:Z)<(f.length:Z))),cy];grind [bv]
 grind [bv]
section
def w2 (c:X) (x:a9):Prop:=∀a:X,a=65536->∀b∈x.rows,∀d∈x.rows,aS a 3222 3072 c (x.s b d)
structure jc (R:ak9) (full:X) (lf:ak6) (E:X->X->gB) (x:a9) (c:X):Prop where
 r:jB R full lf (eM R.length E) x
 ex:w2 c x
section
variable {R:ak9} {full:X} {lf lf':ak6} {E:X->X->gB} {x:a9} {c:X}
theorem jc.e (d:jc R full lf E x c) (f:a<R.length) (g:b<R.length) (h:lf.getD a bq=bp) (i:lf.getD b bq=bp):E a b=aA (x.s (R.getD a 0) (R.getD b 0)):=by obtain⟨l,j,k⟩:=d.r.ent a b f g h i;grind [alU,gV,eM]
theorem jB.rest (b:jB R full lf o x) {p:ak9} (h:∀a∈p,a<full) (g:∀a,a<R.length->lf'.getD a bq=(lf.getD a bq&&br (a∉p))) {i:X} (l:i<=R.length):fq R lf' i=(fq R lf i).filter λd=>br (d∉p.map λa=>R.getD a 0):=by
 have k:=b.fl;unfold fq;rw[aoT,zA];congr 1;refine qo λa c=>?_;have c:=fN.1 c;rw[g a aa,Bool.and_comm];congr 1;show _=br (R.getD a 0∉p.map λa=>R.getD a 0);refine cB.2 (not_congr ?_);rw[eS];constructor
 ·grind
 rintro⟨j,f,e⟩;have m:=h j f;have:=(b.inj (i:=j) (j:=a) aa aa).1 e;grind
theorem jc.next (b:jc R full lf E x c) {p:ak9} (B:∀a∈p,a<full/\lf.getD a bq=bp) (A:p.Nodup) (z:lf'.length=lf.length) (o:∀a,a<R.length->lf'.getD a bq=(lf.getD a bq&&br (a∉p))) {E':X->X->gB} {c':X} (D:∀d e,d<R.length->e<R.length->lf'.getD d bq=bp->lf'.getD e bq=bp->E' d e=aA ((x.elim (p.map λa=>R.getD a 0)).s (R.getD d 0) (R.getD e 0))) (C:w2 c' (x.elim (p.map λa=>R.getD a 0))):jc R full lf' E' (x.elim (p.map λa=>R.getD a 0)) c':=by
 have m:=b.r.fl;have f:∀a∈p,a<full:=λa y=>(B a y).1;refine⟨⟨z.trans b.r.ll,b.r.nd,b.r.sm,m,?_,?_,λd _ e _=>pC _ _,λd e w F J K=>?_⟩,C⟩
 ·rw[b.r.rest f o (bc _),<-b.r.rows];rfl
 ·rw[b.r.rest f o m];show x.full-(p.map _).length=_;have u:(p.map λa=>R.getD a 0).Nodup:=by
   rw[aoC,nW];refine rz ?_ A;intro k l h j i g;have q:=f k h;have t:=f l j;exact i ((b.r.inj aa aa).1 g)
  have v:(fq R lf full).Nodup:=(by unfold fq;rw[aoC,nW];refine rz ?_ ((nV (n:=full)).sublist uS);intro k l h j i g;have q:=fN.1 (h1.1 h).1;have t:=fN.1 (h1.1 j).1;exact i ((b.r.inj aa aa).1 g));have G:=yg v u (λL H=>by
   grind [J4])
  have I:=b.r.full;omega
 refine⟨az R.length (E' d),gV w,?_⟩;grind [gV]
theorem N2 {b:X->Z}:rV R f (λa=>b (R.getD a 0))=h6 (f.map (λa=>R.getD a 0),b):=by simp_all [qt,rV,h6]
theorem yw {lf:ak6}:a∈e1 lf b↔a<b/\lf.getD a bq=bp:=by grind [e1]
def Qg (lf:ak6) (a:X):(e1 lf a).Nodup:=(nV (n:=a)).sublist uS
end
theorem UB (b:bh c≠2047):aP c=Y 0↔kt c=0:=by
 constructor
 ·intro a;rw[o9 b] at a;have a:=gC a;have e:(2:Z)^(ly c+65536).toNat≠0:=Int.ne_of_gt (lm ab);have d:kK c=0:=(zz.1 a).resolve_right e;have h:=yf c;have g:0<=gw c:=aa;unfold kt;rw[ar b];have f:bh c=0/\gw c=0:=by
   unfold kK at d;omega
  omega
 intro a;unfold kt at a;rw[ar b] at a;by_cases i:bh c=0/\gw c=0
 ·simp_all [nm,au,o9,kK]
 omega
end
section
section
variable {R:ak9} {full:X} {lf lf':ak6} {E:X->X->gB} {x:a9} {c:X}
theorem X0 (c:ak9) (b:X->Z):c.map (λa=>aA (aP (b a)))=(c.map λa=>aP (b a)).map aA:=by simp_all
theorem Tp {l:ak9} {f:X->Z} {d:eA} (b:c4 d) (g:l.length<=1000):pK (l.map (λa=>aA (aP (f a))),aA d,())=Y (l.map (λa=>aA (bk (aP (f a)) d)),()):=by
 rw[X0,afZ (λc e=>by
  grind [kv]) b (by grind),qt]
 rfl
theorem agd (i:jc R full lf E x c) (d6:c+4<1048576) {p:X} (en:p<full) (H:lf.getD p bq=bp) (P:lf'.length=lf.length) (O:∀a,a<R.length->lf'.getD a bq=(lf.getD a bq&&br (a∉[p]))) (an:x.fin (R.getD p 0)):ae (DM (cH R full lf' (eM R.length E),(p:Z),x.ba (R.getD p 0) (R.getD p 0),())) λq=>
  ((x.de [R.getD p 0]).fin/\∃E',q=(cH R full lf' (eM R.length E'),(x.de [R.getD p 0]).eO.map h6,0,())/\jc R full lf' E' (x.elim [R.getD p 0]) (c+4))\/(¬(x.de [R.getD p 0]).fin/\q.2.2.1=233/\q.2.1=[]):=by
 have d9:=i.r.fl;have A:=i.r.sm;have I:p<R.length:=aa;have a0:lf'.length=R.length:=P.trans i.r.ll;generalize C:R.getD p 0=b at*;have G:bh (x.ba b b)≠2047:=(by have:=an (R.getD p 0) (i.r.mem I H);grind);have j:∀a∈e1 lf' R.length,a<R.length/\lf.getD a bq=bp/\a≠p:=λa h=>(by obtain⟨L,d4⟩:=yw.1 h;grind);have z:(e1 lf' R.length).length<=1000:=cO (J1 _ _) aa;have a3:=Qg lf' R.length;have bl:(e1 lf' R.length).map (λa=>R.getD a 0)=x.rows.filter λd=>br (d∉[b]):=(by have:=i.r.rest (lf':=lf') (p:=[p]) (λa h=>by grind) O (bc _);rw[<-i.r.rows] at this;grind [FK,aq1]);have U:∀o,(x.de [b]).rows=(e1 lf' R.length).map (λa=>R.getD a 0)/\(o∈(x.de [b]).l↔o=λd=>if kt (x.ba b b)=0 then 0 else fi (x.s d b) (aP (x.ba b b)) 0):=λo=>⟨bl.symm,by
  show o∈[_]↔_;grind⟩
 generalize D:(λd=>if kt (x.ba b b)=0 then(0:Z) else fi (x.s d b) (aP (x.ba b b)) 0)=f at U;have M:∀d,f d=if kt (x.ba b b)=0 then(0:Z) else fi (x.s d b) (aP (x.ba b b)) 0:=λd=>by rw[<-D]
 have a4:(x.de [b]).l=[f]:=(by rw[<-D];rfl);have d8:(x.de [b]).eO=[((e1 lf' R.length).map (λa=>R.getD a 0),f)]:=(by simp_all [aK.eO]);have ap:(x.de [b]).fin↔∀a∈e1 lf' R.length,bh (f (R.getD a 0))≠2047:=by
  unfold aK.fin;rw[a4,<-(U f).1.symm];constructor
  ·exactλav a h=>av f ac _ (eS.2 ⟨a,h,bn⟩)
  grind
 obtain⟨V,am⟩:=F2 G;have F:c4 (aP (x.ba b b)):=kv _;unfold DM;dsimp only;refine bA (SC a0 A) ?_;dsimp only;refine bA (q4 (x.y0 _ _)) ?_;dsimp only;refine bA (o0 F) ?_;dsimp only;have bx:(hZ (aP (x.ba b b))==0)=br (kt (x.ba b b)=0):=(by rw[g2,cB,<-UB G,am];show fB V=0↔_;grind [amu,fB]);rw[bx];have eq:(∀a∈e1 lf' R.length,bh (f (R.getD a 0))≠2047)->
  ae ((pK ((e1 lf' R.length).map (λa=>aA (aP (f (R.getD a 0)))),aA (aP (x.ba b b)),())).bind λ(ds,_)=>
   (qM (cH R full lf' (eM R.length E),cZ (e1 lf' R.length),ds,(e1 lf' R.length).map (λa=>aA (aP (f (R.getD a 0)))),())).bind λ(dl,_)=>
   Y (dl,[rV R (e1 lf' R.length) λa=>f (R.getD a 0)],(0:Z),())) λq=>((x.de [b]).fin/\∃E',q=(cH R full lf' (eM R.length E'),(x.de [b]).eO.map h6,0,())/\jc R full lf' E' (x.elim [b]) (c+4))\/(¬(x.de [b]).fin/\q.2.2.1=233/\q.2.1=[]):=by
  intro t;refine bA (Tp F z) ?_;dsimp only;have ce:=TK (R:=R) (full:=full) (lf:=lf') (E:=E) (l:=e1 lf' R.length) (s:=λd g=>x.s (R.getD d 0) (R.getD g 0)) (u:=λa=>bk (aP (f (R.getD a 0))) (aP (x.ba b b))) (v:=λa=>aP (f (R.getD a 0))) A (λa h=>(j a h).1) a3 z
   (λd k g m=>i.e (j d k).1 (j g m).1 (j d k).2.1 (j g m).2.1) (λd k g m=>i.r.okd _ (i.r.mem (j d k).1 (j d k).2.1) _ (i.r.mem (j g m).1 (j g m).2.1)) (λd _=>oi _ _) (λd _=>kv _)
  refine bA ce ?_;refine bv.2 (.inl ⟨ap.2 t,(λd g=>if d∈e1 lf' R.length/\g∈e1 lf' R.length then aA (cM (x.s (R.getD d 0) (R.getD g 0)) (c5 (bk (bk (aP (f (R.getD d 0))) (aP (x.ba b b))) (aP (f (R.getD g 0)))))) else E d g),?_,?_⟩)
  ·grind [N2]
  have N:∀d J,yk (x.kb [b]) (x.lc [b]) d J=iQ (f d) (x.ba b b) (f J):=λd J=>(by rw[<-D];rfl);have em:=i.next (lf':=lf') (p:=[p]) (λa h=>by grind) ac P O (E':=λd g=>if d∈e1 lf' R.length/\g∈e1 lf' R.length then aA (cM (x.s (R.getD d 0) (R.getD g 0)) (c5 (bk (bk (aP (f (R.getD d 0))) (aP (x.ba b b))) (aP (f (R.getD g 0)))))) else E d g) (c':=c+4) (λd g k m cv c1=>by
   rw[au ⟨yw.2 ⟨k,cv⟩,yw.2 ⟨m,c1⟩⟩,zE,C];show _=aA (cM _ (c5 (yk (x.kb [b]) (x.lc [b]) _ _)));rw[N];rfl) (by
   rw[zE,C];intro K B d k g m;have ek:=k;have el:=m;change d∈x.rows.filter _ at k;change g∈x.rows.filter _ at m;have Q:∀o,o∈x.rows.filter (λd=>br (d∉[b]))->o∈x.rows/\bh (f o)≠2047:=λo d5=>(by grind);obtain⟨i1,ci⟩:=Q d k;obtain⟨co,cs⟩:=Q g m;show aS K 3222 3072 (c+4) (cM _ (c5 (yk (x.kb [b]) (x.lc [b]) _ _)));rw[N];exact(aS.sub B (i.ex K B d i1 g co) (aS.iQ B ci G cs) aa).1.mono (bc _) (bc _) aa)
  grind
 by_cases w:kt (x.ba b b)=0
 ·rw[a7 (aH w)];have ad:∀d,f d=0:=λd=>(by rw[M d,ca w]);have L:pH (1,())=Y (aA (jm 1),()):=vF ab ab;refine bA L ?_;dsimp only;rw[aeD];have S:∀a:X,fi (Y 0) (jm 1) 0=0:=λ_=>by
   rw[FA (n:=1) ab bn];unfold fi;grind
  refine bG (Gn (v:=λ_=>Y 0) A (FB 1) (λa h=>⟨(j a h).1,K3,?_⟩) z) ?_
  ·unfold DO;dsimp only;exact ai (vF ab ab) rfl
  rintro q (⟨t,rfl⟩|⟨⟨a,h,t⟩,_⟩)
  ·dsimp only;rw[a2 (by rfl)];have al:(λa:X=>fi (Y 0) (jm 1) 0)=λa=>f (R.getD a 0):=(by simp_all);have d3:(e1 lf' R.length).map (λa=>aA (aP (fi (Y 0) (jm 1) 0)))=(e1 lf' R.length).map λa=>aA (aP (f (R.getD a 0))):=alA λa _=>(by rw[S a,ad]);grind
  rw[S a] at t;exact absurd t ab
 rw[a2 (aD w)];have d7:∀d,f d=fi (x.s d b) (aP (x.ba b b)) 0:=λd=>(by rw[M d,ar w]);rw[aeE];refine bG (Gn (v:=λa=>x.s (R.getD a 0) b) A F (λa h=>⟨(j a h).1,?_,?_⟩) z) ?_
 ·have:=i.r.okd _ (i.r.mem (j a h).1 (j a h).2.1) _ (i.r.mem I H);grind
 ·unfold DN;dsimp only;obtain⟨d0,c2,dg⟩:=i.r.ent a p (j a h).1 I (j a h).2.1 H;rw[C] at dg;refine ai (y:=Y (cH R full lf' (eM R.length E))) rfl (ai (y:=cH R full lf' (eM R.length E)) rfl ?_);refine ai (y:=d0) (by rw[h7];exact c2) (ai (y:=(p:Z)) rfl (ai (y:=aA (x.s (R.getD a 0) b)) (by grind [h7]) rfl))
 rintro q (⟨t,rfl⟩|⟨⟨a,h,t⟩,T⟩)
 ·grind
 obtain⟨o,d1,d2,_⟩:=q;dsimp only at T;subst T;dsimp only;rw[a7 (by rfl)];grind [bv]
end
end
section
theorem Ov:vt ([aA (aP j),aA (aP c),aA (aP w)],())=Y (aA (hU [j,c,w]),()):=by unfold vt;dsimp only;refine ai (y:=aA (aP j)) rfl (ai (y:=aA (aP w)) rfl (ai (oZ (kv _) (kv _)) (ai (y:=aA (aP c)) rfl (ai (y:=aA (aP c)) rfl (ai (oZ (kv _) (kv _)) (ai (EX (oi _ _) (oi _ _)) ?_))))));rfl
section
variable {R:ak9} {full:X} {lf lf':ak6} {E:X->X->gB} {x:a9} {c:X}
theorem QE (a:jc R full lf E x c) {lf':ak6} {k p q:X} (b:k<R.length) (e:p<R.length) (f:q<R.length) (aq:lf.getD k bq=bp) (g:lf.getD p bq=bp) (h:lf.getD q bq=bp) {d:eA} (i:c4 O) (j:c4 d):Aw ((k:Z),(p:Z),(q:Z),aA O,aA d,Y (Y (cH R full lf' (eM R.length E))),())=Y (aA (cM (bk (x.s (R.getD k 0) (R.getD p 0)) O) (c5 (bk (x.s (R.getD k 0) (R.getD q 0)) d))),()):=by obtain⟨t,l,v⟩:=a.r.ent k p b e aq g;obtain⟨u,m,w⟩:=a.r.ent k q b f aq h;have n:=a.r.okd _ (a.r.mem b aq) _ (a.r.mem e g);have o:=a.r.okd _ (a.r.mem b aq) _ (a.r.mem f h);unfold Aw;dsimp only;refine ai (y:=Y (cH R full lf' (eM R.length E))) rfl (ai (y:=cH R full lf' (eM R.length E)) rfl (ai (y:=t) (by rw[h7];exact l) (ai (y:=aA _) (by grind [h7]) (ai (oZ n i) ?_))));refine ai (y:=Y (cH R full lf' (eM R.length E))) rfl (ai (y:=cH R full lf' (eM R.length E)) rfl (ai (y:=u) (by rw[h7];exact m) (ai (y:=aA _) (by grind [h7]) (ai (oZ o j) (ai (EX (oi _ _) (oi _ _)) rfl)))))
theorem Xn (A:jc R full lf E x c) (ge:c+4<1048576) {p:X} (mt:p<full) (a0:lf.getD p bq=bp) (nd:a<full) (a3:lf.getD a bq=bp) (mz:p≠a) (d4:lf'.length=lf.length) (d3:∀g,g<R.length->lf'.getD g bq=(lf.getD g bq&&br (g∉[p,a]))) (d1:x.fin (R.getD p 0)) (gi:x.fin (R.getD a 0)):ae (Av (cH R full lf' (eM R.length E),(p:Z),(a:Z),x.kb [R.getD p 0,R.getD a 0],())) λJ=>
  ((x.de [R.getD p 0,R.getD a 0]).fin/\∃E',J=(cH R full lf' (eM R.length E'),(x.de [R.getD p 0,R.getD a 0]).eO.map h6,0,())/\jc R full lf' E' (x.elim [R.getD p 0,R.getD a 0]) (c+4))\/(¬(x.de [R.getD p 0,R.getD a 0]).fin/\J.2.2.1=233/\J.2.1=[]):=by
 have mc:=A.r.fl;have V:=A.r.sm;have bl:p<R.length:=aa;have bx:a<R.length:=aa;have hv:lf'.length=R.length:=d4.trans A.r.ll;have B:∀g∈e1 lf' R.length,g<R.length/\lf.getD g bq=bp:=λg n=>(by obtain⟨f7,f8⟩:=yw.1 n;grind);have U:(e1 lf' R.length).length<=1000:=cO (J1 _ _) aa;have ic:=Qg lf' R.length;have hw:=λ(g:X) (n:g∈e1 lf' R.length) (L K:eA) (Q:c4 L) (S:c4 K)=>QE A (lf':=lf') (k:=g) (p:=p) (q:=a) (B g n).1 bl bx (B g n).2 a0 a3 Q S;have ib:=λ(g:X) (n:g∈e1 lf' R.length) (L K:eA) (Q:c4 L) (S:c4 K)=>QE A (lf':=lf') (k:=g) (p:=a) (q:=p) (B g n).1 bx bl (B g n).2 a3 a0 Q S;have gc:=A.r.mem bl a0;have ds:=A.r.mem bx a3;generalize le:R.getD p 0=j at*;generalize lk:R.getD a 0=i at*;have a4:[p,a].map (λg=>R.getD g 0)=[j,i]:=(by grind);have f6:bh (x.ba j j)≠2047:=d1 j gc;have dg:bh (x.ba i j)≠2047:=d1 i ds;have f2:bh (x.ba i i)≠2047:=gi i ds;have d7:(e1 lf' R.length).map (λg=>R.getD g 0)=x.rows.filter λb=>br (b∉[j,i]):=by
  have:=A.r.rest (lf':=lf') (p:=[p,a]) (λg n=>by
   grind) d3 (bc _)
  rw[<-A.r.rows,a4] at this;grind [FK]
 generalize ap:(λb=>fi (cM (bk (x.s b j) (aP (x.ba i i))) (c5 (bk (x.s b i) (aP (x.ba i j))))) (hU (x.kb [j,i])) 0)=o;generalize av:(λb=>fi (cM (bk (x.s b i) (aP (x.ba j j))) (c5 (bk (x.s b j) (aP (x.ba i j))))) (hU (x.kb [j,i])) 0)=t;have d6:(x.de [j,i]).l=[o,t]:=(by rw[<-ap,<-av];rfl);have hs:x.lc [j,i]=[o,t]:=d6;have id:(x.de [j,i]).rows=(e1 lf' R.length).map (λg=>R.getD g 0):=d7.symm;have lo:(x.de [j,i]).eO=[((e1 lf' R.length).map (λg=>R.getD g 0),o),((e1 lf' R.length).map (λg=>R.getD g 0),t)]:=(by grind [aK.eO]);have gt:(x.de [j,i]).fin↔(∀g∈e1 lf' R.length,bh (o (R.getD g 0))≠2047)/\∀g∈e1 lf' R.length,bh (t (R.getD g 0))≠2047:=by
  unfold aK.fin;rw[d6,id];constructor
  ·exactλd2=>⟨λg n=>d2 o ac _ (eS.2 ⟨g,n,bn⟩),λg n=>d2 t ac _ (eS.2 ⟨g,n,bn⟩)⟩
  rintro⟨f7,f8⟩ H N b C;obtain⟨g,n,rfl⟩:=eS.1 C;rcases fF.1 N with rfl|N
  ·grind
  grind
 have d0:c4 (hU (x.kb [j,i])):=pC _ _;have gf:x.kb [j,i]=[x.ba j j,x.ba i j,x.ba i i]:=rfl;unfold Av;dsimp only;refine bA (SC hv V) ?_;dsimp only;refine bA (y:=x.ba j j) rfl (bA (q4 (x.y0 _ _)) (bA (y:=x.ba i j) rfl (bA (q4 (x.y0 _ _)) (bA (y:=x.ba i i) rfl (bA (q4 (x.y0 _ _)) ?_)))));dsimp only;refine bA Ov ?_;dsimp only;rw[aeF,<-gf];refine bG (Gn (v:=λg=>cM (bk (x.s (R.getD g 0) j) (aP (x.ba i i))) (c5 (bk (x.s (R.getD g 0) i) (aP (x.ba i j))))) V d0 (λg n=>⟨(B g n).1,pC _ _,?_⟩) U) ?_
 ·unfold DK;dsimp only;refine ai (y:=(Y (Y (cH R full lf' (eM R.length E))),())) rfl (ai (y:=(p:Z)) rfl (ai (y:=(a:Z)) rfl (ai (y:=[aA (aP (x.ba j j)),aA (aP (x.ba i j)),aA (aP (x.ba i i))]) rfl (ai (y:=aA (aP (x.ba i i))) rfl (ai (y:=[aA (aP (x.ba j j)),aA (aP (x.ba i j)),aA (aP (x.ba i i))]) rfl (ai (y:=aA (aP (x.ba i j))) rfl ?_))))));exact ai (hw g n _ _ (kv _) (kv _)) rfl
 rintro J (⟨lt,rfl⟩|⟨⟨g,n,gl⟩,P⟩)
 rotate_left
 ·obtain⟨H,fT,f0,_⟩:=J;dsimp only at P;subst P;dsimp only;rw[a7 (by rfl)];grind [bv]
 dsimp only;rw[a2 (by rfl),aeG];refine bG (Gn (v:=λg=>cM (bk (x.s (R.getD g 0) i) (aP (x.ba j j))) (c5 (bk (x.s (R.getD g 0) j) (aP (x.ba i j))))) V d0 (λg n=>⟨(B g n).1,pC _ _,?_⟩) U) ?_
 ·unfold DL;dsimp only;refine ai (y:=(Y (Y (cH R full lf' (eM R.length E))),())) rfl (ai (y:=(a:Z)) rfl (ai (y:=(p:Z)) rfl (ai (y:=[aA (aP (x.ba j j)),aA (aP (x.ba i j)),aA (aP (x.ba i i))]) rfl (ai (y:=aA (aP (x.ba j j))) rfl (ai (y:=[aA (aP (x.ba j j)),aA (aP (x.ba i j)),aA (aP (x.ba i i))]) rfl (ai (y:=aA (aP (x.ba i j))) rfl ?_))))));exact ai (ib g n _ _ (kv _) (kv _)) rfl
 rintro J (⟨l2,rfl⟩|⟨⟨g,n,gl⟩,P⟩)
 rotate_left
 ·obtain⟨H,fT,f0,_⟩:=J;dsimp only at P;subst P;dsimp only;rw[a7 (by rfl)];grind [bv]
 dsimp only;rw[a2 (by rfl)];have f1:(λg=>fi (cM (bk (x.s (R.getD g 0) j) (aP (x.ba i i))) (c5 (bk (x.s (R.getD g 0) i) (aP (x.ba i j))))) (hU (x.kb [j,i])) 0)=λg=>o (R.getD g 0):=(by rw[<-ap]);have f4:(λg=>fi (cM (bk (x.s (R.getD g 0) i) (aP (x.ba j j))) (c5 (bk (x.s (R.getD g 0) j) (aP (x.ba i j))))) (hU (x.kb [j,i])) 0)=λg=>t (R.getD g 0):=(by rw[<-av]);have f3:(λg=>aA (aP (fi (cM (bk (x.s (R.getD g 0) j) (aP (x.ba i i))) (c5 (bk (x.s (R.getD g 0) i) (aP (x.ba i j))))) (hU (x.kb [j,i])) 0)))=λg=>aA (aP (o (R.getD g 0))):=(by rw[<-ap]);have f5:(λg=>aA (aP (fi (cM (bk (x.s (R.getD g 0) i) (aP (x.ba j j))) (c5 (bk (x.s (R.getD g 0) j) (aP (x.ba i j))))) (hU (x.kb [j,i])) 0)))=λg=>aA (aP (t (R.getD g 0))):=(by rw[<-av]);have go:∀g∈e1 lf' R.length,bh (o (R.getD g 0))≠2047:=λg n=>(by grind);have gs:∀g∈e1 lf' R.length,bh (t (R.getD g 0))≠2047:=λg n=>(by grind);rw[f1,f4,f3,f5];generalize mo:e1 lf' R.length=m at*;have am:=λ(E:X->X->gB) (an:X->X->eA) (L K:X->eA) (f9:∀b∈m,∀h∈m,E b h=aA (an b h)) (ii:∀b∈m,∀h∈m,c4 (an b h)) (Q:∀b,c4 (L b)) (S:∀b,c4 (K b))=>
  TK (R:=R) (full:=full) (lf:=lf') (E:=E) (l:=m) (s:=an) (u:=L) (v:=K) V (λg n=>(B g n).1) ic U f9 ii (λb _=>Q b) (λb _=>S b)
 have ci:∀{E:X->X->gB} {s':X->X->eA},∀b∈m,∀h∈m,(if b∈m/\h∈m then aA (s' b h) else E b h)=aA (s' b h):=λb C h F=>au ⟨C,F⟩;generalize ce:(λb h=>x.s (R.getD b 0) (R.getD h 0))=z;generalize d8:(λg=>bk (aP (o (R.getD g 0))) (aP (x.ba j j)))=w;generalize d9:(λg=>bk (aP (o (R.getD g 0))) (aP (x.ba i j)))=D;generalize ek:(λg=>bk (aP (t (R.getD g 0))) (aP (x.ba i j)))=G;generalize el:(λg=>bk (aP (t (R.getD g 0))) (aP (x.ba i i)))=T;generalize em:(λg=>aP (o (R.getD g 0)))=v1;generalize en:(λg=>aP (t (R.getD g 0)))=fb;have fs:∀b,c4 (v1 b):=λb=>(by grind [kv]);have ft:∀b,c4 (fb b):=λb=>(by grind [kv]);have is:∀b,c4 (w b):=λb=>(by grind [oi]);have ix:∀b,c4 (D b):=λb=>(by grind [oi]);have i0:∀b,c4 (G b):=λb=>(by grind [oi]);have i2:∀b,c4 (T b):=λb=>(by grind [oi]);have kg:m.map (λg=>aA (aP (o (R.getD g 0))))=m.map λg=>aA (v1 g):=(by rw[<-em]);have lb:m.map (λg=>aA (aP (t (R.getD g 0))))=m.map λg=>aA (fb g):=(by rw[<-en]);have ad:=λ(fz:X->Z) (c2:Z)=>Tp (l:=m) (f:=fz) (d:=aP c2) (kv c2) U;have i3:=am E z w v1 (λb C h F=>by rw[<-ce];exact A.e (B b C).1 (B h F).1 (B b C).2 (B h F).2) (λb C h F=>by rw[<-ce];exact A.r.okd _ (A.r.mem (B b C).1 (B b C).2) _ (A.r.mem (B h F).1 (B h F).2)) is fs;have i8:=am _ (λb h=>cM (z b h) (c5 (bk (w b) (v1 h)))) D fb (ci (E:=E) (s':=λb h=>cM (z b h) (c5 (bk (w b) (v1 h))))) (λb _ h _=>pC _ _) ix ft;have jp:=am _ (λb h=>cM (cM (z b h) (c5 (bk (w b) (v1 h)))) (c5 (bk (D b) (fb h)))) G v1 (ci (E:=λb h=>if b∈m/\h∈m then aA (cM (z b h) (c5 (bk (w b) (v1 h)))) else E b h) (s':=λb h=>cM (cM (z b h) (c5 (bk (w b) (v1 h)))) (c5 (bk (D b) (fb h))))) (λb _ h _=>pC _ _) i0 fs;have kd:=am _ (λb h=>cM (cM (cM (z b h) (c5 (bk (w b) (v1 h)))) (c5 (bk (D b) (fb h)))) (c5 (bk (G b) (v1 h)))) T fb (ci (E:=λb h=>if b∈m/\h∈m then aA (cM (cM (z b h) (c5 (bk (w b) (v1 h)))) (c5 (bk (D b) (fb h)))) else if b∈m/\h∈m then aA (cM (z b h) (c5 (bk (w b) (v1 h)))) else E b h) (s':=λb h=>cM (cM (cM (z b h) (c5 (bk (w b) (v1 h)))) (c5 (bk (D b) (fb h)))) (c5 (bk (G b) (v1 h))))) (λb _ h _=>pC _ _) i2 ft;have co:=ad (λg=>o (R.getD g 0)) (x.ba j j);have cs:=ad (λg=>o (R.getD g 0)) (x.ba i j);have cv:=ad (λg=>t (R.getD g 0)) (x.ba i j);have c1:=ad (λg=>t (R.getD g 0)) (x.ba i i);rw[show m.map (λg=>aA (bk (aP (o (R.getD g 0))) (aP (x.ba j j))))=m.map λg=>aA (w g) by rw[<-d8]] at co;rw[show m.map (λg=>aA (bk (aP (o (R.getD g 0))) (aP (x.ba i j))))=m.map λg=>aA (D g) by rw[<-d9]] at cs;rw[show m.map (λg=>aA (bk (aP (t (R.getD g 0))) (aP (x.ba i j))))=m.map λg=>aA (G g) by rw[<-ek]] at cv;rw[show m.map (λg=>aA (bk (aP (t (R.getD g 0))) (aP (x.ba i i))))=m.map λg=>aA (T g) by rw[<-el]] at c1;rw[kg] at co cs|-;rw[lb] at cv c1|-;refine bA (y:=aA (aP (x.ba j j))) rfl (bA co (bA i3 ?_));refine bA (y:=aA (aP (x.ba i j))) rfl (bA cs (bA i8 ?_));refine bA (y:=aA (aP (x.ba i j))) rfl (bA cv (bA jp ?_));refine bA (y:=aA (aP (x.ba i i))) rfl (bA c1 (bA kd ?_));refine bv.2 (.inl ⟨gt.2 ⟨go,gs⟩,(λb h=>if b∈m/\h∈m then aA (cM (cM (cM (cM (z b h) (c5 (bk (w b) (v1 h)))) (c5 (bk (D b) (fb h)))) (c5 (bk (G b) (v1 h)))) (c5 (bk (T b) (fb h)))) else(λb h=>if b∈m/\h∈m then aA (cM (cM (cM (z b h) (c5 (bk (w b) (v1 h)))) (c5 (bk (D b) (fb h)))) (c5 (bk (G b) (v1 h)))) else(λb h=>if b∈m/\h∈m then aA (cM (cM (z b h) (c5 (bk (w b) (v1 h)))) (c5 (bk (D b) (fb h)))) else if b∈m/\h∈m then aA (cM (z b h) (c5 (bk (w b) (v1 h)))) else E b h) b h) b h),?_,?_⟩)
 ·grind [N2]
 have hc:∀b O,yk (x.kb [j,i]) (x.lc [j,i]) b O=cM (cM (cM (iQ (o b) (x.ba j j) (o O)) (iQ (o b) (x.ba i j) (t O))) (iQ (t b) (x.ba i j) (o O))) (iQ (t b) (x.ba i i) (t O)):=λb O=>(by rw[hs];rfl);have dl:∀M:X,M=65536->∀b∈x.rows.filter (λb=>br (b∉[j,i])),∀h∈x.rows.filter (λb=>br (b∉[j,i])),
  cM (cM (cM (cM (x.s b h) (c5 (iQ (o b) (x.ba j j) (o h)))) (c5 (iQ (o b) (x.ba i j) (t h)))) (c5 (iQ (t b) (x.ba i j) (o h)))) (c5 (iQ (t b) (x.ba i i) (t h)))=(x.elim [j,i]).s b h/\aS M 3222 3072 (c+4) ((x.elim [j,i]).s b h):=by
  intro M I b C h F;have d5:∀H,H∈x.rows.filter (λb=>br (b∉[j,i]))->H∈x.rows/\bh (o H)≠2047/\bh (t H)≠2047:=λH N=>(by refine⟨(h1.1 N).1,?_⟩;rw[<-d7] at N;obtain⟨g,n,rfl⟩:=eS.1 N;grind);obtain⟨i1,eq,fn⟩:=d5 b C;obtain⟨io,fp,fr⟩:=d5 h F;have:=aS.agD I (A.ex M I b i1 h io) (aS.iQ I eq f6 fp) (aS.iQ I eq dg fr) (aS.iQ I fn dg fp) (aS.iQ I fn f2 fr) ge;rw[<-hc] at this;exact this
 have mp:=A.next (lf':=lf') (p:=[p,a]) (λg n=>by
  rcases fF.1 n with rfl|n
  ·grind
  grind) (by grind) d4 d3 (E':=λb h=>if b∈m/\h∈m then aA (cM (cM (cM (cM (z b h) (c5 (bk (w b) (v1 h)))) (c5 (bk (D b) (fb h)))) (c5 (bk (G b) (v1 h)))) (c5 (bk (T b) (fb h)))) else(λb h=>if b∈m/\h∈m then aA (cM (cM (cM (z b h) (c5 (bk (w b) (v1 h)))) (c5 (bk (D b) (fb h)))) (c5 (bk (G b) (v1 h)))) else(λb h=>if b∈m/\h∈m then aA (cM (cM (z b h) (c5 (bk (w b) (v1 h)))) (c5 (bk (D b) (fb h)))) else if b∈m/\h∈m then aA (cM (z b h) (c5 (bk (w b) (v1 h)))) else E b h) b h) b h) (c':=c+4) (λb h C F ne nn=>by
   have hi:b∈m:=(by grind [yw]);have hr:h∈m:=(by grind [yw]);rw[a4];dsimp only;rw[ca ⟨hi,hr⟩,<-(dl 65536 bn (R.getD b 0) (by grind) (R.getD h 0) (by grind)).1,<-ce,<-d8,<-d9,<-ek,<-el,<-em,<-en];rfl) (by
   rw[a4];intro M I b C h F;exact(dl M I b C h F).2)
 grind
end
end
section
theorem NP {x:a9}:∀{d b:ak9},x.ik d=Y b->∀c∈b,x.fin c
 |[],b,a,c,f=>by grind [a9.ik]
 |q::d,b,a,c,f=>by
  rw[a9.ik] at a;split at a
  ·cases a
  rename_i e;have e:=aqS.1 e;split at a
  ·grind
  split at a
  ·grind
  rename_i h g;split at a
  ·exact NP a c f
  grind
abbrev xb:=bu (Z×((bm aM×bt)×(bm (bu (bm (Z×cS)×X))×bt)))
abbrev HB:=xb×(aM×(aM×(aM×(bm eL×e4))))
def l0 (b:xb) (a:bm aK) (del:X):HB:=(b,(cZ (a.flatMap aK.a1),(a.map (λc=>(c.a1.length:Z)),(a.flatMap aK.d,((a.flatMap aK.eO).map h6,((del:Z),()))))))
def HA (a:bm aK):Prop:=(a.flatMap aK.a1).length<=1000/\a.length<=1000/\(a.flatMap aK.d).length<=10000/\(a.flatMap aK.eO).length<=10000
def iO (lf:ak6) (c:ak9):ak6:=c.foldl (λb a=>b.set a bq) lf
theorem aa6 (lf:ak6) (b:ak9) (a:X):iO lf (b++[a])=(iO lf b).set a bq:=by grind [iO]
theorem KI (a:ak9):∀lf:ak6,(iO lf a).length=lf.length:=by
 induction a with
 |nil=>intro lf;rfl
 |cons c a b=>
  grind [anI,iO,lf]
theorem aa5 (b:ak9):∀(lf:ak6) {a:X},a<lf.length->(iO lf b).getD a bq=(lf.getD a bq&&br (a∉b)):=by
 induction b with
 |nil=>grind [iO,lf]
 |cons c b e=>
  intro lf a d;show(iO (lf.set c bq) b).getD a bq=_;grind
section
variable {R:ak9} {full:X} {lf:ak6} {E:X->X->gB} {x:a9} {c:X}
def mA (x:a9) (a:ak9) (c:X):ala:=(bI c).flatMap λb=>(bI (b+1)).map λd=>x.ba (a.getD b 0) (a.getD d 0)
def jc.value (d:jc R full lf E x c) (e:a<R.length) (f:b<R.length) (h:lf.getD a bq=bp) (i:lf.getD b bq=bp) (g:ak6):tx (Y (cH R full g (eM R.length E)),(a:Z),(b:Z),())=Y (x.ba (R.getD a 0) (R.getD b 0),()):=by obtain⟨l,j,k⟩:=d.r.ent a b e f h i;unfold tx;dsimp only;refine ai (y:=cH R full g (eM R.length E)) rfl (ai (y:=l) (by rw[h7];exact j) (ai (y:=aA _) (by rw[h7];exact k) ?_));exact ai (OC (d.r.okd _ (d.r.mem e h) _ (d.r.mem f i))) rfl
theorem Xz (u:jc R full lf E x c) (M:c+4<1048576) (p:∀b∈f,b<full/\lf.getD b bq=bp) (dl:0<f.length) (N:x.choose=Y (f.map λb=>R.getD b 0)) (n:xb) {g:bm aK} (am:HA g) (del:X):ae (DQ (l0 n g del,cH R full lf (eM R.length E),cZ f,())) λh=>
  ((x.de (f.map λb=>R.getD b 0)).fin/\∃B j,h=(l0 n (g++[x.de (f.map λb=>R.getD b 0)]) del,cH R full B (eM R.length j),0,())/\jc R full B j (x.elim (f.map λb=>R.getD b 0)) (c+4))\/(¬(x.de (f.map λb=>R.getD b 0)).fin/\h.2.2.1=233):=by
 have d2:=u.r.fl;have a0:=u.r.ll;have F:=NP N;have O:=z7 N;have S:∀b∈f,b<R.length:=λb o=>(by grind);have d6:f.length<=2:=by rcases O with k|⟨e,k,_⟩|⟨e,s,k,_⟩<;>have:=b3 cz k<;>simp only[dh,iH,qs] at this<;>omega
 have G:ao (cZ f)=(f.length:Z):=(by rw[bb,jG]);have d9:=u.r.sm;obtain⟨cs,cv,c1,c2⟩:=am;have d3:∀e,e<f.length->(f.map λb=>R.getD b 0).getD e 0=R.getD (f.getD e 0) 0:=λe q=>(by grind);have d7:∀e,(q:e<f.length)->f.getD e 0=f[e]:=λe q=>(by grind);generalize v:(f.map λb=>R.getD b 0)=a at*;have w:a.length=f.length:=(by grind);unfold DQ l0;dsimp only;refine bG (P:=λi=>i=((n,(cZ (g.flatMap aK.a1++a),(g.map (λi=>(i.a1.length:Z)),(g.flatMap aK.d,((g.flatMap aK.eO).map h6,((del:Z),())))))),cH R full (iO lf f) (eM R.length E),mA x a f.length,())) ?_ ?_
 ·refine bR f.length (λe i=>i=((e:Z),(n,(cZ (g.flatMap aK.a1++a.take e),(g.map (λi=>(i.a1.length:Z)),(g.flatMap aK.d,((g.flatMap aK.eO).map h6,((del:Z),())))))),cH R full (iO lf (f.take e)) (eM R.length E),mA x a e,())) ?_ ?_ ?_
  ·rw[anN,anN,pq];rfl
  rotate_left
  ·rintro _ rfl;dsimp only;rw[G,a2 (aD (aa:¬(f.length:Z)<(f.length:Z))),cy,<-w,cy];grind [bv]
  rintro e _ q rfl;dsimp only;rw[G,a7 (aH (aa:(e:Z)<(f.length:Z))),bg aa];have T:=b6 q;have Q:=S _ T;have av:=(p _ T).2;refine bG (P:=λi=>i=((n,(cZ (g.flatMap aK.a1++a.take e),(g.map (λi=>(i.a1.length:Z)),(g.flatMap aK.d,((g.flatMap aK.eO).map h6,((del:Z),())))))),cH R full (iO lf (f.take e)) (eM R.length E),mA x a (e+1),())) ?_ ?_
  ·refine bR (e+1) (λs i=>i=((s:Z),(n,(cZ (g.flatMap aK.a1++a.take e),(g.map (λi=>(i.a1.length:Z)),(g.flatMap aK.d,((g.flatMap aK.eO).map h6,((del:Z),())))))),cH R full (iO lf (f.take e)) (eM R.length E),mA x a e++(bI s).map (λm=>x.ba (a.getD e 0) (a.getD m 0)),())) ?_ ?_ ?_
   ·grind
   ·rintro s _ d1 rfl;dsimp only;rw[a7 (aH (aa:(s:Z)<((e+1:X):Z))),bg aa];have L:s<f.length:=aa;have U:=b6 L;refine bA (q2 q) (bA (q2 L) (bA (u.value Q (S _ U) av (p _ U).2 _) ?_));dsimp only;have an:(mA x a e).length<=100:=by
     have:e=0\/e=1:=aa;rcases this with rfl|rfl
     ·exact(by decide:(0:X)<=100)
     exact(by decide:(1:X)<=100)
    rw[e3 (by grind),aI];grind [alG,amD,aq1,bv]
   rintro _ rfl;dsimp only;rw[a2 (aD (aa:¬((e+1:X):Z)<((e+1:X):Z)))];grind [alG,bv,mA,bI]
  rintro _ rfl;dsimp only;refine bA (q2 q) ?_;have a4:(cH R full (iO lf (f.take e)) (eM R.length E)).2.2.1=iO lf (f.take e):=rfl;have d5:(iO lf (f.take e)).length=R.length:=(KI _ _).trans a0;rw[a4];refine bA (e9 aa) ?_;rw[hb (bX (aa:f[e]<(iO lf (f.take e)).length))];refine bA bn (bA (q2 q) ?_);dsimp only;have bl:(cH R full (iO lf (f.take e)) (eM R.length E)).1=cZ R:=rfl;rw[bl,yY Q,e3 (by grind [anU,jG,alO,alD]),bN];refine bv.2 ?_;have al:f.take (e+1)=f.take e++[f[e]]:=(by simp_all);have ad:a.take (e+1)=a.take e++[R[f[e]]]:=(by grind [ali,bX]);rw[al,ad,aa6,<-amD,wg (g.flatMap aK.a1++a.take e)];rfl
 rintro _ rfl;dsimp only;have an:(mA x a f.length).length<=100:=by
  have:f.length=1\/f.length=2:=aa;rcases this with k|k<;>rw[k]
  ·exact(by decide:(1:X)<=100)
  exact(by decide:(3:X)<=100)
 rw[G,e3 (by grind),aI,e3 aa,aI];have A:∀b,b<R.length->(iO lf f).getD b bq=(lf.getD b bq&&br (b∉f)):=λb o=>aa5 f lf aa;have t:∀(h:c6×bm eL×Z×bt),((x.de a).fin/\∃j,h=(cH R full (iO lf f) (eM R.length j),(x.de a).eO.map h6,0,())/\jc R full (iO lf f) j (x.elim a) (c+4))\/(¬(x.de a).fin/\h.2.2.1=233/\h.2.1=[])->mA x a f.length=x.kb a->
  (h.2.1.length<=1000)->
  ae ((cN (((g.flatMap aK.eO).map h6).length+h.2.1.length)).bind λ_=>Y (((n,(cZ (g.flatMap aK.a1++a),((g.map (λi=>(i.a1.length:Z))++[(f.length:Z)]),(g.flatMap aK.d++mA x a f.length,((g.flatMap aK.eO).map h6++h.2.1,((del:Z),())))))):HB),h.1,h.2.2.1,())) λh=>
  ((x.de a).fin/\∃B j,h=(l0 n (g++[x.de a]) del,cH R full B (eM R.length j),0,())/\jc R full B j (x.elim a) (c+4))\/(¬(x.de a).fin/\h.2.2.1=233):=by
  rintro h l z d8;rw[e3 (by grind),aI];refine bv.2 ?_;rcases l with⟨J,j,rfl,K⟩|⟨J,K⟩
  ·refine .inl ⟨J,iO lf f,j,?_,K⟩;unfold l0;rw[z,nR,nR,nR,jC,jC];simp only[nS,aq2,pq,gL,uT];show _=((n,(cZ (g.flatMap aK.a1++a),((g.map (λi=>(i.a1.length:Z))++[(a.length:Z)]),(g.flatMap aK.d++x.kb a,((g.flatMap aK.eO).map h6++(x.de a).eO.map h6,((del:Z),())))))),_,_,());rw[w]
  grind
 rcases O with k|⟨V,k,_⟩|⟨V,co,k,ds,d0,d4⟩
 ·grind
 ·rw[k] at w
  match f,w,p,v,A,t with
  |[b],_,p,v,A,t=>
   obtain⟨H,I⟩:=p b ac;have o:a=[R.getD b 0]:=v.symm;rw[a7 (by rfl)];have C:=agd u M H I (lf':=iO lf [b]) (KI _ _) A (F _ (by grind));rw[<-o] at C;have z:mA x a 1=[x.ba (R.getD b 0) (R.getD b 0)]:=(by rw[o];rfl);refine bG (P:=λi=>∃h:c6×bm eL×Z×bt,(((x.de a).fin/\∃j,h=(cH R full (iO lf [b]) (eM R.length j),(x.de a).eO.map h6,0,())/\jc R full (iO lf [b]) j (x.elim a) (c+4))\/(¬(x.de a).fin/\h.2.2.1=233/\h.2.1=[]))/\i=(h.2.2.1,h.2.1,(n,(cZ (g.flatMap aK.a1++a),((g.map (λi=>(i.a1.length:Z))++[((1:X):Z)]),(g.flatMap aK.d++mA x a 1,((g.flatMap aK.eO).map h6,((del:Z),())))))),h.1,())) ?_ ?_
   ·refine bA (y:=(b:Z)) rfl ?_;have a3:∀{ci:Type} (D:Z->bu ci),rd (mA x a 1) 0 D=D (x.ba (R.getD b 0) (R.getD b 0)):=λD=>(by rw[z];rfl);show ae (rd (mA x a 1) 0 _) _;rw[a3];refine bG C ?_;rintro h l;exact bv.2 ⟨h,l,bn⟩
   rintro _ ⟨h,l,rfl⟩;dsimp only;refine t h l (by rw[o];rfl) ?_;rcases l with⟨_,j,rfl,_⟩|⟨_,_,k⟩
   ·show((x.de a).eO.map h6).length<=1000;rw[o,dh];show 1<=1000;decide
   grind
 rw[k] at w
 match f,w,p,v,A,t with
 |[b,m],_,p,v,A,t=>
  obtain⟨H,I⟩:=p b ac;obtain⟨bx,ce⟩:=p m ac;have o:a=[R.getD b 0,R.getD m 0]:=v.symm;have ap:b≠m:=λdg=>(by grind);rw[a2 (by rfl)];have C:=Xn u M H I bx ce ap (lf':=iO lf [b,m]) (KI _ _) A (F _ (by grind)) (F _ (by grind));rw[<-o] at C;have z:mA x a 2=x.kb a:=(by rw[o];rfl);refine bG (P:=λi=>∃h:c6×bm eL×Z×bt,(((x.de a).fin/\∃j,h=(cH R full (iO lf [b,m]) (eM R.length j),(x.de a).eO.map h6,0,())/\jc R full (iO lf [b,m]) j (x.elim a) (c+4))\/(¬(x.de a).fin/\h.2.2.1=233/\h.2.1=[]))/\i=(h.2.2.1,h.2.1,(n,(cZ (g.flatMap aK.a1++a),((g.map (λi=>(i.a1.length:Z))++[((2:X):Z)]),(g.flatMap aK.d++mA x a 2,((g.flatMap aK.eO).map h6,((del:Z),())))))),h.1,())) ?_ ?_
  ·refine bA (y:=(b:Z)) rfl (bA (y:=(m:Z)) rfl ?_);show ae ((Av (cH R full (iO lf [b,m]) (eM R.length E),(b:Z),(m:Z),mA x a 2,())).bind _) _;rw[z];refine bG C ?_;rintro h l;exact bv.2 ⟨h,l,by grind⟩
  rintro _ ⟨h,l,rfl⟩;dsimp only;refine t h l z ?_;rcases l with⟨_,j,rfl,_⟩|⟨_,_,k⟩
  ·show((x.de a).eO.map h6).length<=1000;rw[o,dh];show 2<=1000;decide
  grind
end
end
section
section
variable {R:ak9} {full:X}
structure Vb (R:ak9) (full:X) (Co:a9) (n vb:X) (m:xb) (ps0:bm aK) (del:X) (lf:ak6) (E:X->X->gB) (y:a9) (ps:bm aK) (k:X):Prop where
 x:jc R full lf E y (vb+4*ps.length)
 w:lL y
 lt:y.full<k
 pl:ps.length+y.full<=Co.full
 run:a9.run n Co=(a9.run k y).map λq=>(q.1,ps++q.2)
 b:(ps.flatMap aK.a1).length+y.full=Co.full/\(ps.flatMap aK.d).length<=3*ps.length/\(ps.flatMap aK.eO).length=(ps.flatMap aK.a1).length
theorem aew {m:a9} {lf:ak6} {E:X->X->gB} (D:jc R full lf E m g) (bs:lL m) (dg:g+4*m.full+4<1048576) (a3:m.full<a) (q:xb) {ps0:bm aK} (d1:m.full<=100) (c2:(ps0.flatMap aK.a1).length<=500/\ps0.length<=500/\(ps0.flatMap aK.d).length<=5000/\(ps0.flatMap aK.eO).length<=5000) {del:X} (d0:del<=1000000):ae (DS (l0 q ps0 del,cH R full lf (eM R.length E),())) λo=>
  (∃c i e f s,a9.run a m=Y (c,i)/\o=(l0 q (ps0++i) (del+c.full),cH R full e (eM R.length f),0,())/\jc R full e f c s/\s<=g+4*m.full)\/(a9.run a m=bo/\o.2.2.1=233):=by
 have d2:=D.r.fl;have d9:=D.r.sm;unfold DS;dsimp only;refine bG (P:=λj=>(∃c i e f s,a9.run a m=Y (c,i)/\j=.inl (l0 q (ps0++i) del,cH R full e (eM R.length f),())/\jc R full e f c s/\s<=g+4*m.full/\c.full<=m.full)\/(a9.run a m=bo/\∃o:HB×c6×Z×bt,j=.inr o/\o.2.2.1=233)) ?_ ?_
 ·refine alv (λj=>∃e f c i k,j=(l0 q (ps0++i) del,cH R full e (eM R.length f),())/\Vb R full m a g q ps0 del e f c i k) (λj=>(j.2.1.2.2.1.filter λp=>p).length) ⟨lf,E,m,[],a,by rw[List.append_nil],D,bs,a3,ac,ac,ac⟩ ?_;rintro _ ⟨e,f,c,i,k,rfl,l⟩;dsimp only;have d6:=l.lt;have d7:=l.pl;obtain⟨k,rfl⟩:∃co,k=co+1:=⟨k-1,aa⟩;refine bG l.x.r.choose ?_;rintro o (⟨L,M⟩|⟨h,rfl,Q,t⟩)
  ·obtain⟨V,p,_⟩:=o;dsimp only at L;subst L;dsimp only;rw[a7 (by rfl)];refine bv.2 (.inr ⟨?_,_,bn,bn⟩);rw[l.run,GI M];rfl
  dsimp only;rw[a2 (by rfl),bb,jG];by_cases C:h=[]
  ·subst C;rw[a7 (by rfl)];refine bv.2 (.inl ⟨c,i,e,f,_,?_,bn,l.x,aa,aa⟩);rw[l.run,y3 t];simp
  have T:0<h.length:=sV.2 C;rw[a2 (by rw[g2,aD aa])];obtain⟨i1,ek,el⟩:=l.b;have an:HA (ps0++i):=(by grind [alO,HA]);have u:=z7 t;have ci:0<c.full:=(by have a0:=Q _ (cL T);have:=l.x.r.QA (k:=h[0]) aa a0.2;grind);refine bG (Xz l.x aa Q T t q an del) ?_;rintro o (⟨y,A,Mt,rfl,v⟩|⟨y,z⟩)
  ·dsimp only;rw[a2 (by rfl)];have N:∀(lf:ak6) (c:a9) (K:X) (E:X->X->gB),jc R full lf E c K->(lf.filter λp=>p).length=c.rows.length:=λlf c K E U=>by
    rw[U.r.rows,FK,dh];unfold e1;rw[<-U.r.ll];have:lf=(bI lf.length).map λk=>lf.getD k bq:=by refine ie λk=>?_;grind
    conv=>lhs;rw[this]
    rw[aoT,dh];rfl
   have ad:(h.map λk=>R.getD k 0).length=h.length:=dh _;have d5:h.length<=c.full:=(by obtain⟨G,I⟩:=u.props;have:=G.length_le_of_subset I;grind);have d8:(c.elim (h.map λk=>R.getD k 0)).rows.length<c.rows.length:=(by obtain⟨G,I⟩:=u.props;have:=yg l.w.nd G λj a4=>rG (I j a4);show(c.rows.filter _).length<_;omega);refine bv.2 ⟨⟨A,Mt,c.elim (h.map λk=>R.getD k 0),i++[c.de (h.map λk=>R.getD k 0)],k,by rw[lQ],?_,l.w.elim u,?_,?_,?_,?_⟩,?_⟩
   ·grind
   ·show c.full-(h.map λk=>R.getD k 0).length<k;omega
   ·show(i++[_]).length+(c.full-(h.map λk=>R.getD k 0).length)<=_;grind
   ·rw[l.run,wH t aa,au y];cases a9.run k (c.elim (h.map λk=>R.getD k 0)) with
    |none=>rfl
    |some j=>simp
   ·have H:=l.w.Sn u aa y (S:=c.rows) λn O=>O;have F:(c.de (h.map λk=>R.getD k 0)).a1.length=h.length:=ad;have ap:(c.de (h.map λk=>R.getD k 0)).eO.length=h.length:=by
     unfold aK.eO;rw[dh,H.len,F]
    have av:=H.dl;have am:=H.at1;simp only[nR,nS,aq2,pq,hI,nU];rw[F,ap];rw[F] at av am;refine⟨?_,?_,aa⟩
    ·show _+(c.full-(h.map λk=>R.getD k 0).length)=_;omega
    omega
   show(anE _ (cH R full A _).2.2.1).length<(anE _ (cH R full e _).2.2.1).length;have al:=N A _ _ _ v;have c1:=N e _ _ _ l.x;show(A.filter λp=>p).length<(e.filter λp=>p).length;omega
  obtain⟨V,p,cv,_⟩:=o;dsimp only at z;subst z;dsimp only;rw[a7 (by rfl)];refine bv.2 (.inr ⟨?_,_,bn,bn⟩);rw[l.run,wH t (by grind),b8 y];rfl
 rintro j (⟨c,i,e,f,s,z,rfl,v,ds,ci⟩|⟨z,o,rfl,M⟩)
 rotate_left
 ·grind [bv]
 dsimp only;have bx:=v.r.full;refine bG (P:=λj=>j=(l0 q (ps0++i) (del+c.full),cH R full e (eM R.length f),())) ?_ (by grind [bv]);rw[bx];refine bR full (λn j=>j=((n:Z),l0 q (ps0++i) (del+(fq R e n).length),cH R full e (eM R.length f),())) rfl ?_ ?_
 ·rintro n _ O rfl;dsimp only;have J:(cH R full e (eM R.length f)).2.1=(full:Z):=rfl;have ce:(cH R full e (eM R.length f)).2.2.1=e:=rfl;have d4:=v.r.ll;rw[J,a7 (aH (aa:(n:Z)<(full:Z))),bg aa,ce];have bl:∀{cs:Type} (B:bz->bu cs),rd e (n:Z) B=B (e.getD n bq):=λB=>by
   grind [e9,hb,bX,rd]
  rw[bl];have d3:=J3 R e n;refine bG (P:=λj=>j=(l0 q (ps0++i) (del+(fq R e (n+1)).length),cH R full e (eM R.length f),())) ?_ (by grind [bv]);rw[yx];cases C:e.getD n bq with
  |true=>
   rw[bF,ca bn,alO,anU];refine bv.2 ?_;unfold l0;dsimp only;rw[bg aa];rfl
  |false=>
   rw[bP,ar ab];grind [bv]
 rintro _ rfl;dsimp only;have J:(cH R full e (eM R.length f)).2.1=(full:Z):=rfl;rw[J,a2 (aD (aa:¬(full:Z)<(full:Z)))];grind [bv]
end
end
def uj:fy:=([],([],([],([],([],([],(0,())))))))
def my (a:bm a9):X:=(a.map a9.full).sum
def qQ (c:X->X->eA) (d:ala) (a:bm eE):fy×Z×bt:=match iM c a a.length with
 |none=>(uj,233,())
 |some b=>(pO d b.2 (my b.1:Z),0,())
def O6 {a:X->X->eA} {b:bm eE} {c:X} (e:iM a b c=bo):∀d,iM a b (c+d)=bo
 |0=>e
 |d+1=>by show(iM a b (c+d)).bind _=bo;rw[O6 e d];rfl
theorem Ot (a:bm a9) (b:a9):my (a++[b])=my a+b.full:=by grind [my]
theorem W8 {n:X} {L:bm a9} (c:∀b,b<L.length->(L.getD b gn).full<=n):my L<=n*L.length:=by
 unfold my;have:∀a∈L,a.full<=n:=λa d=>(by grind [bX,al7]);clear c
 induction L with
 |nil=>grind
 |cons a L e=>
  grind [apm,Nat.mul_succ]
section
def lv (n:X):X->X
 |0=>0
 |t+1=>lv n t+(1+lv n t+4*n)
theorem OD (n:X):∀t,lv n t+(4*n+1)=(4*n+1)*2^t
 |0=>by simp[lv]
 |t+1=>by have:=OD n t;grind [Nat.pow_succ,Nat.mul_assoc,lv]
def OE {n t:X} (e:n<=12) (b:t<=12):lv n t<=200704:=by have c:=OD n t;have a:2^t<=2^12:=rJ ab b;have d:=nr (aa:4*n+1<=49) a;omega
section
variable {l:bm eE} {n t:X} {L:X->a9} {A:X->X->eA}
theorem OZ {L:X->a9} {D:X->X}:∀{cs:ak9} {x:a9} {k:X},(∀c∈cs,w2 (D c) (L c))->k+(cs.map D).sum<1048576->(∀a:X,a=65536->∀b d,aS a 3222 3072 k (x.s b d))->∀a:X,a=65536->∀b d,aS a 3222 3072 (k+(cs.map D).sum) ((cs.foldl (λx c=>x.plus (L c)) x).s b d)
 |[],x,k,_,_,f=>by grind
 |c::cs,x,k,g,j,f=>by
  rw[gL,apM] at j|-;rw[aoE,<-qx];refine OZ (k:=k+D c) (λi l=>g i (by grind)) aa λa e b d=>?_;show aS a 3222 3072 _ (if _ then _ else _);split
  ·rename_i h;exact(aS.add e ab (f a e b d) (g c ac a e b h.1 d h.2) aa).1
  exact(f a e b d).mono (bc _) (bc _) aa
theorem TM (b:X->X) (c:X->bz):∀l:ak9,((l.filter c).map b).sum<=(l.map b).sum
 |[]=>bc _
 |a::l=>by have:=TM b c l;grind
def TL (n:X):∀t,((bI t).map λa=>1+lv n a+4*n).sum=lv n t
 |0=>rfl
 |t+1=>by rw[jq,jC,apN,TL n t,lv];simp
theorem XX (j:∀b:X,b=65536->∀c d,aS b 3222 3072 1 (A c d)) (h:n<=12) (i:t<=12) (f:∀a,a<t->w2 (1+lv n a+4*n) (L a)):w2 (1+lv n t) (hS A l L t):=by
 intro b e c _ d _;have o:((e5 l t t).map λa=>1+lv n a+4*n).sum<=lv n t:=(by have:=TM (λa=>1+lv n a+4*n) (λa=>br (gF l a=(t:Z))) (bI t);rwa[TL] at this);have m:=OE h i;have:=OZ (L:=L) (D:=λa=>1+lv n a+4*n) (cs:=e5 l t t) (x:=mu A l L t) (k:=1) (λa g=>f a (By.1 g).1) aa (λb e c d=>by
  show aS b 3222 3072 1 (if _ then _ else _);split
  ·grind
  exact aS.zero) b e c d
 exact this.mono (bc _) (bc _) aa
theorem Yn (g:l.length<=1000) (f:∀d∈l,d.2.2.1.length<=64):D4 (l,(),())=Y (bq,()):=by
 have c:D6 (l,(),())=Y (-1,()):=by
  unfold D6;refine bO.1 ?_;dsimp only;refine bG (P:=λb=>b=.inl ()) ?_ (by grind [bv]);refine bR l.length (λa b=>b=((a:Z),())) rfl ?_ ?_
  ·rintro a _ c rfl;dsimp only;rw[bb,a7 (aH (aa:(a:Z)<(l.length:Z))),bg aa];refine bA (y:=l[a]) (by rw[h7,bX c]) ?_;have e:DE (l[a],())=Y (bq,()):=by
    grind [bb,aD,b6,DE]
   refine bA e ?_;dsimp only;rw[bP];grind [bv]
  rintro _ rfl;dsimp only;rw[bb,a2 (aD (aa:¬(l.length:Z)<(l.length:Z)))];grind [bv]
 unfold D4;grind
end
structure Hx (n t:X) (UK:X->lP) (L:X->a9):Prop where
 p:∀c,c<t->MK n (UK c) (L c)
 ex:∀c,c<t->w2 (1+lv n c+4*n) (L c)
theorem ad2 {F:eu} {l:bm eE} {n:X} {A:X->X->eA} (o:iw F l) (w:F.length=n) (J:∀u v,c4 (A u v)) (dl:∀M:X,M=65536->∀u v,aS M 3222 3072 1 (A u v)) (S:n<=12) {O:rP} (d8:d.length=n) (d2:tC (O,d,())=Y (Y (c,(F,()),x,()),0,())) (c2:∀u v:X,u<n->v<n->vE (Y (c,(F,()),x,()),(u:Z),(v:Z),())=Y (aA (A u v),())) (dg:vD ((F,()),l,())=Y (0,())):xQ (O,d,l,())=Y (qQ A d l):=by
 have f2:=Fk o;have ds:∀t,(z:t<l.length)->aw l (t:Z)=Y ((cJ l t:Z),(cJ l (t+1):Z),ir l (t:Z),gF l t,()):=λt z=>(by rw[h7];exact(jL.of o w z).g);have el:∀i∈l,i.2.2.1.length<=64:=λi fp=>(by obtain⟨t,q,rfl⟩:=al7.1 fp;have B:=jL.of o w q;have G:=B.g;rw[bX q] at G;have H:=B.Hu;grind [alU,ir,iC]);unfold xQ;refine ai d2 ?_;dsimp only;rw[a2 (by rfl)];refine ai bn (ai dg ?_);dsimp only;rw[a2 (by rfl)];refine ai (Yn aa el) ?_;dsimp only;rw[bP,bb,im aa,bN];refine bO.1 ?_;generalize f3:(Y (c,(F,()),x,()):xb)=I at*;refine bG (P:=λf=>(iM A l l.length=bo/\f=.inr (uj,233,()))\/∃L h,iM A l l.length=Y (L,h)/\f=.inl (uj,l0 I h (my L),())) ?_ ?_
 ·refine bR l.length (λt f=>∃L h j,iM A l t=Y (L,h)/\Hx n t j (λa=>L.getD a gn)/\f=((t:Z),uj,l0 I h (my L),az l.length (λe=>(e5 l t e).map λa=>(j a).enc),())) ?_ ?_ ?_
  ·refine⟨[],[],λ_=>⟨[],0,[],[]⟩,bn,⟨λa C=>by omega,λa C=>by omega⟩,?_⟩;rw[jk];rfl
  rotate_left
  ·rintro _ ⟨L,h,j,z,_,rfl⟩;dsimp only;rw[a2 (aD (aa:¬(l.length:Z)<(l.length:Z)))];grind [bv]
  rintro t _ q ⟨L,h,j,d4,R,rfl⟩;dsimp only;rw[a7 (aH (aa:(t:Z)<(l.length:Z))),bg aa];obtain⟨d1,m⟩:=vO J o w aa d4;have B:=jL.of o w q;have ad:=m.xv J B;have eq:=m.Nu A J B;have en:=XX (l:=l) dl S (aa:t<=12) R.ex;have a3:=V4 o w q m J (aa:n<=64) R.p c2;have co:=jB.start ad aa;have f7:iM A l (t+1)=(a9.run ((hS A l (λa=>L.getD a gn) t).full+1) (hS A l (λa=>L.getD a gn) t)).map λf=>(L++[f.1],h++f.2):=(by grind [iM]);have fn:=ad.full;generalize f6:hS A l (λa=>L.getD a gn) t=b at*;rw[<-aaz] at a3 co;have d3:jc b.rows b.full (bJ b.rows.length bp) (λO cs=>aA (b.s (b.rows.getD O 0) (b.rows.getD cs 0))) b (1+lv n t):=⟨co,en⟩;have f1:=OE S (aa:t<=12);obtain⟨ax,f8,f9⟩:=Sm m.de;have f5:(h.flatMap aK.a1).length<=n:=(by have H:=m.perm.length_eq;rw[alO,aox] at H;have cv:=B.C4;have c1:=B.Ib;omega);have f0:=W8 (n:=n) (L:=L) λa C=>(m.fl aa).1;have f4:n*L.length<=12*12:=Nat.mul_le_mul S aa;have d9:=aew d3 ad aa (ani _) I (ps0:=h) aa aa (del:=my L) aa;refine bG (P:=λf=>(iM A l (t+1)=bo/\f=.inr (.inr (.inr (uj,233,()))))\/∃N am T,iM A l (t+1)=Y (N,am)/\Hx n (t+1) T (λa=>N.getD a gn)/\f=.inl (uj,l0 I am (my N),az l.length (λe=>(e5 l (t+1) e).map λa=>(T a).enc),())) ?_ ?_
  rotate_left
  ·rintro _ (⟨G,rfl⟩|⟨N,am,T,G,H,rfl⟩)
   ·dsimp only;refine bv.2 (.inl ⟨?_,bn⟩);have H:=O6 G (l.length-(t+1));rwa[(aa:t+1+(l.length-(t+1))=l.length)] at H
   grind [bv]
  refine bA (ds t q) ?_;have ek:∀{fs:Type} (k:X->bm (bu c6)) (U:bm (bu c6)->bu fs),rd (az l.length k) (t:Z) U=U (k t):=λk U=>(by unfold rd;rw[cI,e9 q,bN,hb (gV q),bN]);rw[ek];refine bA a3 ?_;dsimp only;refine bG (P:=λf=>(∃i E D y Q,a9.run (b.full+1) b=Y (i,E)/\f=(0,uj,l0 I (h++E) (my L+i.full),az l.length (λe=>(e5 l t e).map λa=>(j a).enc),((cJ l t:Z),(cJ l (t+1):Z),ir l (t:Z),gF l t,()),cH b.rows b.full D (eM b.rows.length y),())/\jc b.rows b.full D y i Q/\Q<=1+lv n t+4*b.full)\/(a9.run (b.full+1) b=bo/\f.1=233)) ?_ ?_
  ·rw[a7 (by rfl)];refine bG d9 ?_;rintro gc (⟨i,E,D,y,Q,G,rfl,cv,c1⟩|⟨G,H⟩)
   ·grind [bv]
   grind [bv]
  rintro f (⟨i,E,D,y,Q,em,rfl,a0,fz⟩|⟨em,ci⟩)
  rotate_left
  ·obtain⟨ft,_⟩:=f;dsimp only at ci;subst ci;dsimp only;rw[a7 (by rfl)];refine bv.2 (.inl ⟨by grind,bn⟩)
  dsimp only;rw[a2 (by rfl)];have a4:iM A l (t+1)=Y (L++[i],h++E):=(by grind);have bl:∀a,a<t->(L++[i]).getD a gn=L.getD a gn:=λa C=>(by rw[aq3,aq3,List.getElem?_append_left aa]);have bx:(L++[i]).getD t gn=i:=(by simp_all);generalize ce:(⟨b.rows,b.full,D,eM b.rows.length y⟩:lP)=K;have d7:K.enc=Y (cH b.rows b.full D (eM b.rows.length y)):=(by rw[<-ce];rfl);have av:Hx n (t+1) (λa=>if a=t then K else j a) (λa=>(L++[i]).getD a gn):=by
   refine⟨λa C=>?_,λa C=>?_⟩
   ·by_cases k:a=t
    ·subst k;rw[au bn,bx,<-ce];exact⟨a0.r,eq⟩
    rw[ar k,bl a aa];exact R.p a aa
   by_cases k:a=t
   ·subst k;rw[bx];intro M d0 u d5 v d6;have:=fn;exact(a0.ex M d0 u d5 v d6).mono (bc _) (bc _) aa
   rw[bl a aa];exact R.ex a aa
  have V:∀e,((e5 l t e).map λa=>((if a=t then K else j a):lP).enc)=(e5 l t e).map λa=>(j a).enc:=λe=>iU λa C=>(by have:=(By.1 C).1;rw[ar aa]);rcases Gi o w q with⟨an,_⟩|⟨e,an,ge,ap,_⟩
  ·rw[a2 (aD (aa:¬gF l t>=0))];refine bv.2 (.inr ⟨L++[i],h++E,_,a4,av,?_⟩);rw[Ot];have:(az l.length λe=>(e5 l (t+1) e).map λa=>((if a=t then K else j a):lP).enc)=az l.length λe=>(e5 l t e).map λa=>(j a).enc:=df λe _=>by
    rw[NT,ar aa,V]
   grind
  rw[a7 (aH (aa:gF l t>=0)),an];refine bA (e9 (by grind [cI])) ?_;rw[hb (gV ap),aI];have fT:((e5 l t e).map λa=>(j a).enc).length<=1000:=(by rw[dh];have:(e5 l t e).length<=t:=(by unfold e5;grind);omega);rw[e3 (by grind),aI];refine bA (e9 (by grind [cI])) ?_;rw[a7 ac,hb (gV ap),aI,hb (gV ap),aI];refine bv.2 (.inr ⟨L++[i],h++E,_,a4,av,?_⟩);rw[Ot,ho];have:(az l.length λe=>(e5 l (t+1) e).map λa=>((if a=t then K else j a):lP).enc)=az l.length (eG (λe=>(e5 l t e).map λa=>(j a).enc) e (((e5 l t e).map λa=>(j a).enc)++[Y (cH b.rows b.full D (eM b.rows.length y))])):=df λfr _=>by
   rw[NT];by_cases k:fr=e
   ·subst k;rw[gH,au an,jC,V,zE,au bn,d7]
   rw[g6 _ _ k,ar aa,V]
  grind
 rintro f (⟨z,rfl⟩|⟨L,h,z,rfl⟩)
 ·unfold qQ;grind [bv]
 dsimp only;unfold qQ;rw[z];obtain⟨d1,m⟩:=vO J o w (cf _) z;refine bA (aeh d8 S (m.all o w) m.de _ I) ?_;grind [bv]
end
section
def GN (c:X->X->bz) (e d a b:X):bz:=c a b||(br (a=e)&&br (b=d))
theorem O2 {n:X}:az b (eG (λc=>az n (h c)) a (az n (eG (h a) g bp)))=az b (λc=>az n (GN h a g c)):=
 df λc _=>by grind [g6,df,gH,GN]
def l3 (a:X->X) (b:X):eE:=((a b:Z),(a (b+1):Z),[],-1,())
structure oC (G:eu) (n j F:X) (c:X->X) (T:X->X->bz):Prop where
 z:c 0=0
 e:c F=j
 m:∀f,f<F->c f<c (f+1)
 t:∀f i,f<F->i<n->(T f i=bp↔∃m,c f<=m/\m<c (f+1)/\(i:Z)∈he G m)
theorem aax (e:∀d,d<a->u d<u (d+1)):∀c b,c<b->b<=a->u c<u b:=by
 intro c b f
 induction b with
 |zero=>omega
 |succ b g=>
  grind
theorem Qa (d:∀c,c<a->u c<u (c+1)):∀b,b<=a->u 0+b<=u b:=by
 intro b
 induction b with
 |zero=>omega
 |succ b e=>
  grind
section
variable {G:eu} {n:X} (D:G.length=n) (B:fA G) (H:n<=7) {A:ala} (C:A.length<=9223372036854775807)
include D B H C
theorem W4:ae (loop (σ:=(Z×jS×bm gD×bt)) (ρ:=kB) (λ(k,M,H,_)=>
 bif br (k<ao (az n (he G))) then
 bB (α:=kB) (
 bB (α:=kB) (
 bB (α:=(bz×jS×bm gD×bt)) (bif (k==0)==bq then(vy (A,ay (900+k),())).bind λ(d0,_)=>
 (eQ bD d0 7).bind λd3=>
 (jy d3 3).bind λd4=>
 Y (br (d4>0),M,H,()) else Y (bp,M,H,())) λ(d1,N,I,_)=>
  bif d1 then
 (cN (N.length+([(k,(aQ k,(([]:bi),((-1:Z),()))))]).length)).bind λ_=>
 (gg (ao (az n (he G))) (ao (az n (he G)))).bind λa0=>
 (cN (I.length+([bJ a0 bq]).length)).bind λ_=>
 Y ((N++[(k,(aQ k,(([]:bi),((-1:Z),()))))]),(I++[bJ a0 bq]),()) else
 Y (N,I,())) λ(D,bx,_)=>
 (be D.length (ay (ao D-1))).bind λV=>
 (a5 D V λQ=>Y (D.set V (Q.1,(aQ k,Q.2.2)))).bind λd8=>
 (loop (σ:=(Z×jS×bm gD×bt)) (ρ:=kB) (λ(L,av,x,_)=>
 (aw (az n (he G)) k).bind λd5=>
  bif br (L<ao d5) then
 (be x.length (ay (ao D-1))).bind λK=>
 (aw (az n (he G)) k).bind λd6=>
 (aw d6 L).bind λd7=>
 ((a5 x K λa4=>Y a4).bind λbl=>be bl.length d7).bind λam=>
 (a5 x K λR=>(a5 R am λ_=>Y (R.set am bp)).map λd9=>x.set K d9).bind λek=>
 Y (.inl (aQ L,av,ek,())) else
 Y (.inr (av,x,()))) (0,d8,bx,())).bind λ(dg,ce,_)=>
 Y (dg,ce,())) λ(dl,ci,_)=>
 Y (.inl (aQ k,dl,ci,())) else
 Y (.inr (M,H,()))) (0,[],[],())) (λds=>∃f h i,oC G n n f h i/\ds=(az f (l3 h),az f (λa=>az n (i a)),())):=by
 refine bR n (λc O=>∃f h i,oC G n c f h i/\O=((c:Z),az f (l3 h),az f (λa=>az n (i a)),())) ⟨0,λ_=>0,λ_ _=>bq,⟨bn,bn,λa u=>absurd u (oL _),λa g u=>absurd u (oL _)⟩,bn⟩ ?_ ?_
 ·rintro c _ J ⟨f,h,i,j,rfl⟩;have eq:=Qa j.m f (cf _);have ex:=j.z;have fl:=j.e;dsimp only;rw[bb,cI,a7 (aH (aa:(c:Z)<(n:Z))),bg aa];refine bG (P:=λs=>∃(b:X) (d:X->X) (l:X->X->bz),d 0=0/\(∀a,a<b->d a<d (a+1))/\d b<=c/\b<=c/\(∀a g,a<b+1->g<n->(l a g=bp↔∃r,d a<=r/\r<eG d (b+1) (c+1) (a+1)/\(g:Z)∈he G r))/\s=(az (b+1) (l3 (eG d (b+1) (c+1))),az (b+1) (λa=>az n (l a)),())) ?_ ?_
  ·refine bG (P:=λs=>∃(b:X) (d:X->X) (l:X->X->bz) (F:Z),d 0=0/\(∀a,a<b->d a<d (a+1))/\d b<=c/\b<=c/\(∀a g,a<b+1->g<n->(l a g=bp↔∃r,d a<=r/\r<eG d (b+1) c (a+1)/\(g:Z)∈he G r))/\s=(az (b+1) (eG (l3 d) b ((d b:Z),F,[],-1,())),az (b+1) (λa=>az n (l a)),())) ?_ ?_
   ·refine bG (P:=λs=>∃E:bz,s=(E,az f (l3 h),az f (λa=>az n (i a)),())/\(E=bq->0<c)) ?_ ?_
    ·rw[g2];by_cases o:c=0
     ·rw[a2 (by simp[o])];grind [bv]
     rw[a7 (by simp[o])];refine bG (Mf A C _) ?_;rintro⟨d2,_⟩ c1;dsimp only at c1|-;obtain⟨a3,c2⟩:∃a3,eQ bD d2 7=some a3:=⟨_,ca ab⟩;refine bA c2 ?_;unfold jy;rw[ca ab,bN];grind [bv]
    rintro _ ⟨E,rfl,co⟩;dsimp only;cases E with
    |true=>
     rw[bF,e3 (by grind [cI]),aI];refine bA (im aa) ?_;rw[e3 (by grind [cI]),aI];refine bv.2 ⟨f,h,(λa g=>if a<f then i a g else bq),((c+1:X):Z),j.z,j.m,aa,aa,?_,?_⟩
     ·intro a g v q;dsimp only;by_cases o:a<f
      ·rw[au o,g6 _ _ aa];exact j.t a g o q
      obtain rfl:a=f:=aa;rw[ar o,gH];grind
     have al:az f (l3 h)++[((c:Z),((c+1:X):Z),([]:ala),(-1:Z),())]=az (f+1) (eG (l3 h) f ((h f:Z),((c+1:X):Z),[],-1,())):=(by grind [df,g6,o3,gH]);have el:az f (λa=>az n (i a))++[bJ n bq]=az (f+1) (λa=>az n (λg=>if a<f then i a g else bq)):=(by simp_all [df,au,amS,alV,o3,jk]);grind
    |false=>
     have fp:=co bn;rw[bP];obtain⟨b,rfl⟩:∃b,f=b+1:=⟨f-1,by
      grind⟩
     have fr:=j.m b aa;refine bv.2 ⟨b,h,i,(c:Z),j.z,λa v=>j.m a aa,aa,aa,?_,?_⟩
     ·intro a g v q;rw[j.t a g v q];grind [g6,gH]
     grind [df,gH,g6,l3]
   rintro _ ⟨b,d,l,F,T,U,ad,an,ap,rfl⟩;dsimp only;rw[bb,cI,show ay (((b+1:X):Z)-1)=(b:Z) by rw[(aa:((b+1:X):Z)-1=(b:Z)),cG aa aa]];refine bA (e9 (ani b)) ?_;rw[gT (ani b),gH,ho];refine bA bn ?_;have al:az (b+1) (eG (eG (l3 d) b ((d b:Z),F,[],-1,())) b ((d b:Z),((c+1:X):Z),[],-1,()))=az (b+1) (l3 (eG d (b+1) (c+1))):=df λa v=>by
    by_cases o:a=b
    ·simp_all [gH,g6,l3]
    grind [g6,l3]
   dsimp only;rw[al];have cs:∀p,(u:p<(he G c).length)->∃g:X,(he G c)[p]=(g:Z)/\g<n:=λp u=>(by obtain⟨g,em,en,_⟩:=N8 B (b6 u);grind);have fn:(he G c).length<=n:=(by grind [WP]);refine bG (P:=λs=>s=(az (b+1) (l3 (eG d (b+1) (c+1))),az (b+1) (λa=>az n (λw=>l a w||(br (a=b)&&br ((w:Z)∈he G c)))),())) ?_ ?_
   ·refine bR (he G c).length (λp O=>O=((p:Z),az (b+1) (l3 (eG d (b+1) (c+1))),az (b+1) (λa=>az n (λw=>l a w||(br (a=b)&&br ((w:Z)∈(he G c).take p)))),())) ?_ ?_ ?_
    ·simp
    ·rintro p _ S rfl;dsimp only;refine bA (sg J) ?_;rw[bb,a7 (aH (aa:(p:Z)<((he G c).length:Z))),cI];refine bA (e9 (ani b)) ?_;refine bA (sg J) (bA (eT S) ?_);obtain⟨g,q,cv⟩:=cs p S;rw[q,gT (ani b)];refine bA (y:=g) (by grind [e9,cI]) ?_;rw[gT (ani b),gT cv,ho,anc,ho,O2,bg aa];refine bA bn (bv.2 ?_);congr 3;refine df λa _=>df λw _=>?_;grind [ali,bX,GN]
    rintro _ rfl;dsimp only;refine bA (sg J) ?_;rw[bb,a2 (aD (aa:¬(((he G c).length:X):Z)<((he G c).length:Z))),cy];grind [bv]
   rintro _ rfl;dsimp only;refine bv.2 ⟨b,d,_,T,U,ad,an,?_,bn⟩;intro a g v q;rw[Bool.or_eq_true,ap a g v q];by_cases o:a=b
   ·subst o;rw[gH,gH];grind
   grind [g6]
  rintro _ ⟨b,d,l,T,U,ad,an,ap,rfl⟩;dsimp only;refine bv.2 ⟨b+1,eG d (b+1) (c+1),l,⟨?_,gH _ _ _,?_,?_⟩,bn⟩
  ·grind [g6]
  ·grind [g6,gH]
  grind [g6]
 rintro _ ⟨f,h,i,j,rfl⟩;dsimp only;rw[bb,cI,a2 (aD (aa:¬((n:Z)<(n:Z))))];grind [bv]
end
end
section
theorem ahh (a:X->k) (b:X):eG a b (a b)=a:=by grind [eG]
theorem Uj (b:X->k) (a:X) (d c:k):eG (eG b a d) a c=eG b a c:=by grind [eG]
def hO (a:X->X->bz) (b c:X):ala:=((bI c).filter (a b)).map λd:X=>(d:Z)
theorem Tg:hO h b (a+1)=if h b a=bp then hO h b a++[(a:Z)] else hO h b a:=by grind [alG,hO]
theorem Tf {T:X->X->bz} {f i:X}:(hO T f i).length<=i:=by grind [cx,alF,b9,hO]
def qy (c:X->X) (F:X) (e:X->X->bz) (b g:X) (h:Z):Prop:=
 (h=-1/\∀a,a<g->e b a=bp->a<c (b+1))\/
 (∃a d:X,a<g/\e b a=bp/\c (b+1)<=a/\(∀f,f<a->e b f=bp->f<c (b+1))/\h=(d:Z)/\b<d/\d<F/\c d<=a/\a<c (d+1))
def k8 (c:X->X) (b:X->X->bz) (d f:X) (g:Z) (e a:X):bz:=b e a||(br (g=(e:Z))&&br (c (d+1)<=a)&&br (a<f)&&b d a)
structure nP (G:eu) (n F:X) (c:X->X) (xh:X->X->bz) (f:X) (T:X->X->bz) (g:X->eE):Prop where
 sub:∀m x,m<F->x<n->xh m x=bp->T m x=bp
 sup:∀m x,m<F->x<n->T m x=bp->c m<=x
 ur:∀m,m<f->∃q,qy c F T m n q/\g m=((c m:Z),(c (m+1):Z),hO T m n,q,())/\∀p:X,q=(p:Z)->∀x,c (m+1)<=x->x<n->T m x=bp->T p x=bp
 new:∀m,f<=m->m<F->g m=l3 c m
section
variable {G:eu} {n F:X} {c:X->X} {xh:X->X->bz} (C:G.length=n) (B:fA G) (D:n<=7) (A:oC G n n F c xh)
include C B D A
theorem oC.zv:F<=n:=by have:=Qa A.m F (bc _);have:=A.e;omega
theorem oC.le (f:b<=a) (e:a<=F):c b<=c a:=by
 rcases cU b a with d|d
 ·exact Nat.le_of_lt (aax A.m b a d e)
 grind
theorem oC.own (g:a<n):∃b,b<F/\c b<=a/\a<c (b+1):=by
 have h:∀d,d<=F->a<c d->∃b,b<d/\c b<=a/\a<c (b+1):=by
  intro d
  induction d with
  |zero=>intro _ f;rw[A.z] at f;omega
  |succ d i=>
   grind
 exact h F (bc _) (by rw[A.e];exact g)
theorem oC.sup (e:a<F) (f:b<n) (d:xh a b=bp):c a<=b:=by obtain⟨j,g,h,i⟩:=(A.t a b e f).1 d;grind [N8]
theorem oC.diag (g:a<F) (d:c a<=b) (f:b<c (a+1)):xh a b=bp:=by have h:=A.le C B D (aa:a+1<=F) (bc _);have i:=A.e;obtain⟨k,j,_⟩:=WO B (aa:b<G.length);exact(A.t a b g aa).2 ⟨b,d,f,by grind⟩
theorem ad7 {T:X->X->bz} (ad:a<F) (G:b<n) (av:c (a+1)<=b) {g:X->eE} {has:bm gD} (z:∀d,d<F->(g d).1=(c d:Z)/\(g d).2.1=(c (d+1):Z)):ae (loop (σ:=(Z×jS×bm gD×bt)) (ρ:=kB) (λ(i,f,p,_)=>
 bif br (i<ao f) then
 bB (α:=kB) (
 bB (α:=(bz×jS×bm gD×bt)) (
 (be f.length i).bind λH=>
 (a5 f H λw=>Y w.1).bind λO=>
  bif br ((b:Z)>=O)==bp then(be f.length i).bind λI=>
 (a5 f I λx=>Y x.2.1).bind λQ=>
 Y (br ((b:Z)<Q),f,p,()) else Y (bq,f,p,())) λ(N,o,r,_)=>
  bif N then
 (be o.length (a:Z)).bind λt=>
 (a5 o t λk=>Y (o.set t (k.1,(k.2.1,(k.2.2.1,(i,k.2.2.2.2)))))).bind λR=>
 Y (R,r,()) else
 Y (o,r,())) λ(J,y,_)=>
 Y (.inl (aQ i,J,y,())) else
 Y (.inr (f,p,()))) (aQ (a:Z),az F g,has,())) (λL=>∃e:X,a<e/\e<F/\c e<=b/\b<c (e+1)/\L=(az F (eG g a ((g a).1,(g a).2.1,(g a).2.2.1,(e:Z),())),has,())):=by
 have V:=A.zv C B D;obtain⟨e,K,a0,a3⟩:=A.own C B D G;have am:a<e:=by
  rcases cU a e with h|h
  ·exact h
  have:=A.le C B D (aa:e+1<=a+1) aa;omega
 refine(bR (F-(a+1)) (λm M=>M=(((a+1+m:X):Z),az F (if e<a+1+m then eG g a ((g a).1,(g a).2.1,(g a).2.2.1,(e:Z),()) else g),has,())) ?_ ?_ ?_)
 ·rw[bg aa,ar aa]
 ·rintro m _ an rfl;dsimp only;generalize ap:a+1+m=d;have j:d<F:=aa;rw[bb,cI,a7 (aH (aa:(d:Z)<(F:Z)))];generalize E:(if e<d then eG g a ((g a).1,(g a).2.1,(g a).2.2.1,(e:Z),()) else g)=q;have s:(q d)=g d:=by
   rw[<-E];grind [g6]
  obtain⟨u,v⟩:=z d j;refine bG (P:=λh=>h=(az F (if e<d+1 then eG g a ((g a).1,(g a).2.1,(g a).2.2.1,(e:Z),()) else g),has,())) ?_ ?_
  ·refine bG (P:=λh=>h=(br (d=e),az F q,has,())) ?_ ?_
   ·refine bA (e9 j) ?_;rw[gT j,s,u];refine bA bn ?_;by_cases S:c d<=b
    ·rw[a7 (by grind)];refine bA (e9 j) ?_;rw[gT j,s,v];refine bA bn (bv.2 ?_);by_cases l:d=e
     ·rw[aH l,aH (show(b:Z)<(c (d+1):Z) by grind)]
     have:¬b<c (d+1):=λU=>by
      rcases cU d e with h|h
      ·have:=A.le C B D (aa:d+1<=e) aa;omega
      have:=A.le C B D (aa:e+1<=d) aa;omega
     grind
    rw[a2 (by grind),aD (show¬d=e by grind)];grind [bv]
   rintro _ rfl;dsimp only;by_cases l:d=e
   ·rw[a7 (aH l)];simp_all [bA,bv,gT,ho,au,e9,cI]
   rw[a2 (aD l)];grind [bv]
  grind [bg,bv]
 rintro _ rfl;dsimp only;rw[bb,cI,(aa:a+1+(F-(a+1))=F),a2 (aD (aa:¬((F:Z)<(F:Z)))),ca K];grind [bv]
theorem afG {l:X->eE} (q:a<F) (R:nP G n F c xh a h l):ae (loop (σ:=(Z×jS×bm gD×bt)) (ρ:=kB) (λ(s,t,v,_)=>
 bif br (s<ao (az n (he G))) then
 bB (α:=kB) (
 (be v.length (a:Z)).bind λcs=>
 ((a5 v cs λd1=>Y d1).bind λd2=>be d2.length s).bind λf0=>
 (a5 v cs λd3=>a5 d3 f0 λd4=>Y d4).bind λhc=>
  bif !hc then
 Y (t,v,()) else
 (be t.length (a:Z)).bind λcv=>
 (a5 t cv λd5=>Y d5.2.2.1).bind λgl=>
 (cN (gl.length+([s]).length)).bind λ_=>
 (be t.length (a:Z)).bind λU=>
  bif bH cv U&&bp then
 (a5 t U λd6=>Y d6.2.2.1).bind λgo=>
 (a5 t U λam=>Y (t.set U (am.1,(am.2.1,((go++[s]),am.2.2.2))))).bind λE=>
 bB (α:=kB) (
 bB (α:=(bz×jS×bm gD×bt)) (
 (be E.length (a:Z)).bind λf1=>
 (a5 E f1 λd7=>Y d7.2.1).bind λhi=>
  bif br (s>=hi)==bp then(be E.length (a:Z)).bind λf2=>
 (a5 E f2 λd8=>Y d8.2.2.2.1).bind λhr=>
 Y (br (hr<0),E,v,()) else Y (bq,E,v,())) λ(gf,c2,a4,_)=>
  bif gf then
 (loop (σ:=(Z×jS×bm gD×bt)) (ρ:=kB) (λ(H,u,ap,_)=>
  bif br (H<ao u) then
 bB (α:=kB) (
 bB (α:=(bz×jS×bm gD×bt)) (
 (be u.length H).bind λf3=>
 (a5 u f3 λd9=>Y d9.1).bind λhs=>
  bif br (s>=hs)==bp then(be u.length H).bind λf4=>
 (a5 u f4 λek=>Y ek.2.1).bind λhv=>
 Y (br (s<hv),u,ap,()) else Y (bq,u,ap,())) λ(gi,V,bl,_)=>
  bif gi then
 (be V.length (a:Z)).bind λc1=>
 (a5 V c1 λQ=>Y (V.set c1 (Q.1,(Q.2.1,(Q.2.2.1,(H,Q.2.2.2.2)))))).bind λic=>
 Y (ic,bl,()) else
 Y (V,bl,())) λ(f7,fl,_)=>
 Y (.inl (aQ H,f7,fl,())) else
 Y (.inr (u,ap,()))) (aQ (a:Z),c2,a4,())).bind λ(f5,eq,_)=>
 Y (f5,eq,()) else
 Y (c2,a4,())) λ(z,L,_)=>
 (be z.length (a:Z)).bind λfz=>
 (a5 z fz λdg=>Y dg.2.1).bind λgs=>
  bif br (s>=gs) then
 (be z.length (a:Z)).bind λfT=>
 (a5 z fT λdl=>Y dl.2.2.2.1).bind λgt=>
 (be L.length gt).bind λa0=>
 ((a5 L a0 λds=>Y ds).bind λd0=>be d0.length s).bind λco=>
 (a5 L a0 λa3=>(a5 a3 co λ_=>Y (a3.set co bp)).map λhw=>L.set a0 hw).bind λib=>
 Y (z,ib,()) else
 Y (z,L,()) else bo) λ(f6,ex,_)=>
 Y (.inl (aQ s,f6,ex,())) else
 Y (.inr (t,v,()))) ((c a:Z),az F l,az F (λa=>az n (h a)),())) (λx=>∃j,qy c F h a n j/\x=(az F (eG l a ((c a:Z),(c (a+1):Z),hO h a n,j,())),az F (λd=>az n (k8 c h a n j d)),())):=by
 have is:=A.zv C B D;have i1:=A.le C B D (aa:a+1<=F) (bc _);have i0:=A.e;have jp:=A.m a q;have fr:l a=l3 c a:=R.new a (bc _) q;have i2:∀d,d<F->(l d).1=(c d:Z)/\(l d).2.1=(c (d+1):Z):=λd bx=>by
  rcases cU d a with r|r
  ·obtain⟨j,_,K,_⟩:=R.ur d r;grind
  rw[R.new d r bx];exact⟨bn,bn⟩
 refine bR (n-c a) (λw ge=>∃j,qy c F h a (c a+w) j/\ge=(((c a+w:X):Z),az F (eG l a ((c a:Z),(c (a+1):Z),hO h a (c a+w),j,())),az F (λd=>az n (k8 c h a (c a+w) j d)),())) ?_ ?_ ?_
 ·have al:hO h a (c a)=[]:=by
   unfold hO;rw[CA.2 λk S r=>?_]
   ·rfl
   have J:=fN.1 S;have:=R.sup a k q aa r;omega
  refine⟨-1,.inl ⟨bn,λk S r=>?_⟩,?_⟩
  ·omega
  rw[ml,al];congr 2
  ·have:eG l a ((c a:Z),(c (a+1):Z),([]:ala),(-1:Z),())=l:=by
    rw[show((c a:Z),(c (a+1):Z),([]:ala),(-1:Z),())=l a from fr.symm,ahh]
   grind
  simp_all [df,aD,k8]
 ·rintro w _ i8 ⟨j,M,rfl⟩;dsimp only;generalize i3:c a+w=b at*;have av:b<n:=aa;rw[bb,cI,a7 (aH (aa:(b:Z)<(n:Z))),(aa:c a+(w+1)=b+1)];have fs:k8 c h a b j a b=h a b:=by
   grind [aD,k8]
  refine bG (P:=λx=>∃p,qy c F h a (b+1) p/\x=(az F (eG l a ((c a:Z),(c (a+1):Z),hO h a (b+1),p,())),az F (λd=>az n (k8 c h a (b+1) p d)),())) ?_ ?_
  ·refine bA (e9 (by grind [cI])) ?_;rw[gT q];refine bA (y:=b) (by grind [e9,cI]) ?_;rw[gT q,gT av,fs];refine bA bn ?_;cases an:h a b with
   |false=>
    rw[a7 (by rfl)];refine bv.2 ⟨j,?_,?_⟩
    ·rcases M with⟨ax,p⟩|⟨k,o,ax,p⟩
     ·refine .inl ⟨ax,λk S r=>?_⟩;grind
     exact .inr ⟨k,o,aa,p⟩
    rw[Tg,an,ar ab];congr 2;refine df λd _=>df λk _=>?_;grind [aH,aD,k8]
   |true=>
    rw[a2 (by rfl)];refine bA (e9 (by grind [cI])) ?_;rw[gT q,gH];refine bA bn ?_;have kg:=Tf (T:=h) (f:=a) (i:=b);rw[e3 (by grind),bN];refine bA (e9 (by grind [cI])) ?_;rw[a7 (by simp_all),gT q,gH];refine bA bn ?_;rw[gT q,gH,ho,Uj];refine bA bn ?_;have ft:hO h a b++[(b:Z)]=hO h a (b+1):=(by rw[Tg,ca an]);dsimp only;rw[ft];refine bG (P:=λx=>∃p,x=(az F (eG l a ((c a:Z),(c (a+1):Z),hO h a (b+1),p,())),az F (λd=>az n (k8 c h a b j d)),())/\((b<c (a+1)/\p=j)\/(c (a+1)<=b/\∃o:X,p=(o:Z)/\o<F/\(j=p\/(j=-1/\∀k,k<b->h a k=bp->k<c (a+1)))))/\qy c F h a (b+1) p) ?_ ?_
    ·refine bG (P:=λx=>∃O:bz,x=(O,az F (eG l a ((c a:Z),(c (a+1):Z),hO h a (b+1),j,())),az F (λd=>az n (k8 c h a b j d)),())/\(O=bp↔c (a+1)<=b/\j<0)) ?_ ?_
     ·refine bA (e9 (by grind [cI])) ?_;rw[gT q,gH];refine bA bn ?_;dsimp only;by_cases I:c (a+1)<=b
      ·rw[a7 (by grind)];grind [bA,bv,gT,gH,e9,cI]
      rw[a2 (by grind)];grind [bv]
     rintro _ ⟨O,rfl,fn⟩;dsimp only;cases O with
     |true=>
      obtain⟨ad,id⟩:=fn.1 bn;rw[bF];have ci:j=-1/\∀k,k<b->h a k=bp->k<c (a+1):=by
       rcases M with r|⟨k,o,J,K,el,em,en,_⟩
       ·exact r
       omega
      refine bG (ad7 (T:=h) C B D A q av ad (g:=eG l a ((c a:Z),(c (a+1):Z),hO h a (b+1),j,())) (has:=az F (λd=>az n (k8 c h a b j d))) (λd bx=>?_)) ?_
      ·grind [g6,gH]
      rintro _ ⟨o,f8,N,f9,gc,rfl⟩;dsimp only;refine bv.2 ⟨(o:Z),?_,.inr ⟨ad,o,bn,N,.inr ci⟩,.inr ⟨b,o,aa,an,ad,ci.2,bn,f8,N,f9,gc⟩⟩;rw[gH,Uj]
     |false=>
      rw[bP];refine bv.2 ⟨j,bn,?_,?_⟩
      ·rcases cU b (c (a+1)) with I|I
       ·omega
       refine .inr ⟨I,?_⟩;rcases M with r|⟨k,o,J,K,el,em,en,ii,io,_⟩
       ·grind
       grind
      rcases M with⟨J,K⟩|⟨k,o,J,K⟩
      ·refine .inl ⟨J,λk S ix=>?_⟩;grind
      exact .inr ⟨k,o,aa,K⟩
    rintro _ ⟨p,rfl,fp,ce⟩;dsimp only;refine bA (e9 (by grind [cI])) ?_;rw[gT q,gH];refine bA bn ?_;dsimp only;rcases fp with⟨I,rfl⟩|⟨I,o,rfl,N,kd⟩
    ·rw[a2 (aD (aa:¬(b:Z)>=(c (a+1):Z)))];refine bv.2 ⟨p,ce,?_⟩;congr 2;refine df λd _=>df λk _=>?_;grind [aD,aH,k8]
    rw[a7 (aH (aa:(b:Z)>=(c (a+1):Z)))];refine bA (e9 (by grind [cI])) ?_;rw[gT q,gH];refine bA bn ?_;dsimp only;refine bA (e9 (by grind [cI])) ?_;rw[gT N];refine bA (y:=b) (by grind [e9,cI]) ?_;rw[gT N,gT av,ho,anc,ho,O2];refine bA bn (bv.2 ⟨(o:Z),ce,?_⟩);congr 2;refine df λd _=>df λk _=>?_;grind [GN,k8]
  grind [bg,bv]
 rintro _ ⟨j,M,rfl⟩;dsimp only;rw[(aa:c a+(n-c a)=n)] at*;rw[bb,cI,a2 (aD (aa:¬((n:Z)<(n:Z))))];grind [bv]
end
end
section
theorem qy.congr {c:X->X} {F:X} (d:h a=t a) (e:qy c F h a b j):qy c F t a b j:=by simp_all [qy]
theorem Te (c:h a=t a):hO h a b=hO t a b:=by grind [hO]
section
variable {G:eu} {n F:X} {c:X->X} {A:X->X->bz} (B:G.length=n) (C:fA G) (D:n<=7) (H:oC G n n F c A)
include B C D H
theorem nP.next {o:X->eE} (L:a<F) (i:nP G n F c A a h o) (l:qy c F h a n j):nP G n F c A (a+1) (k8 c h a n j) (eG o a ((c a:Z),(c (a+1):Z),hO h a n,j,())):=by
 have g:∀b,b<=a->k8 c h a n j b=h b:=λb f=>by
  funext e;unfold k8;have:¬j=(b:Z):=by rcases l with⟨d,_⟩|⟨e,p,_,_,_,_,d,k,_⟩<;>omega
  grind
 have v:∀b e,h b e=bp->k8 c h a n j b e=bp:=λb e d=>(by grind [k8]);refine⟨λb e f m d=>v _ _ (i.sub b e f m d),λb e f m d=>?_,λb f=>?_,λb f t=>?_⟩
 ·unfold k8 at d;rw[jK] at d;rcases d with d|d
  ·exact i.sup b e f m d
  simp only[cF,alB] at d;obtain⟨⟨⟨q,k⟩,s⟩,K⟩:=d;rcases l with⟨ax,_⟩|⟨M,p,y,z,B,C,D,E,H,I,J⟩
  ·omega
  grind
 ·rcases cU b a with d|d
  ·obtain⟨ax,q,k,s⟩:=i.ur b d;refine⟨ax,q.congr (g b aa).symm,?_,λp u e w x r=>?_⟩
   ·rw[g6 _ _ aa,k,Te (g b aa)]
   rw[g b aa] at r;grind
  obtain rfl:b=a:=aa;refine⟨j,l.congr (g b aa).symm,?_,λp u e w x r=>?_⟩
  ·rw[gH,Te (g b aa)]
  grind [aH,k8]
 rw[g6 _ _ aa];exact i.new b aa t
end
theorem Ju {k:da} {aV:da} {G:eu} {l:Z} {n:X} (B:G.length=n) (C:fA G) (D:n<=7) (r:p.length<=9223372036854775807) (m:vB (k,())=Y (aV,j,())) (o:vC (aV,())=Y ((s,()),w,())) (q:tB ((s,()),d,())=Y ((G,()),l,())):ae (xY (k,d,p,())) (λi=>∃F c A b a,oC G n n F c A/\nP G n F c A F b a/\i=(az F a,())):=by
 unfold xY;refine bA m (bA o (bA q ?_));refine bA (afo C aa) ?_;dsimp only;rw[B];refine bG (W4 B C D r) ?_;rintro _ ⟨F,c,A,H,rfl⟩;dsimp only;have z:=H.zv B C D;refine bG (P:=λi=>∃b a,nP G n F c A F b a/\i=(az F a,())) ?_ ?_
 ·refine bR F (λe y=>∃b a,nP G n F c A e b a/\y=((e:Z),az F a,az F (λe=>az n (b e)),())) ⟨A,l3 c,⟨λ_ _ _ _ f=>f,λx I t v f=>H.sup B C D t v f,λx f=>absurd f (oL _),λ_ _ _=>rfl⟩,bn⟩ ?_ ?_
  ·rintro e _ g ⟨b,a,h,rfl⟩;dsimp only;rw[bb,cI F,a7 (aH (aa:(e:Z)<(F:Z)))];refine bA (e9 g) ?_;rw[gT g,h.new e (cf _) g];refine bA bn ?_;refine bG (afG B C D H g h) ?_;rintro _ ⟨E,u,rfl⟩;dsimp only;rw[bg aa];exact bv.2 ⟨_,_,h.next B C D H g u,bn⟩
  rintro _ ⟨b,a,h,rfl⟩;dsimp only;rw[bb,cI F,a2 (aD (aa:¬((F:Z)<(F:Z))))];grind [bv]
 grind [bv]
theorem Yc {P:X->bz} {a b:X} (i:∀c,c<a->P c=bq) (j:∀c,a<=c->c<b->P c=bp) (k:a<=b):∀e,(bI (b+e)).filter P=alw a (b-a)++(((bI (b+e)).filter P).filter λc=>br (b<=c)):=by
 have h:∀d,a+d<=b->(bI (a+d)).filter P=alw a d:=by
  intro d
  induction d with
  |zero=>
   simp_all
  |succ d f=>
   grind [aoA,alG,List.filter_cons_of_pos,aqY]
 intro e
 induction e with
 |zero=>
  have:=h (b-a) aa;simp_all
 |succ e f=>
  rw[<-qx,jq,oG,oG,<-lQ,<-f];congr 1;cases g:P (b+e)<;>simp[g]
end
section
section
variable {G:eu} {n F:X} {c:X->X} {I T:X->X->bz} {g:X->eE} (C:G.length=n) (D:fA G) (H:n<=7) (A:oC G n n F c I) (B:nP G n F c I F T g)
include C D H A B
theorem nP.cJ {a:X} (e:a<=F):cJ (az F g) a=c a:=by
 cases a with
 |zero=>exact A.z.symm
 |succ a=>
  obtain⟨f,_,d,_⟩:=B.ur a aa;show(Option.map (λb:eE=>b.2.1.toNat) (az F g)[a]?).getD 0=c (a+1);grind [gV]
theorem Kl {k x:X}:(x:Z)∈hO T k n↔x<n/\T k x=bp:=by unfold hO;grind
theorem Td (a:X):(hO T a n).Pairwise (· < ·):=by unfold hO;rw[nW];exact(apn.filter _).imp λb=>by omega
theorem nP.rows (f:v<F):∃h:ak9,hO T v n=(alw (c v) (c (v+1)-c v)++h).map (λd:X=>(d:Z))/\∀d,d∈h↔c (v+1)<=d/\d<n/\T v d=bp:=by
 have p:=A.le C D H (aa:v+1<=F) (bc _);have q:=A.e;have r:=A.m v f;have:=Yc (P:=λd=>br (d<n)&&T v d) (a:=c v) (b:=c (v+1)) (λd g=>by
  by_cases o:d<n
  ·cases i:T v d with
   |false=>simp
   |true=>have:=B.sup v d f o i;omega
  omega) (λd k l=>by
   show(br (d<n)&&T v d)=bp;rw[aH (aa:d<n),B.sub v d f aa (A.diag C D H f k l)];rfl) aa (n-c (v+1))
 rw[(aa:c (v+1)+(n-c (v+1))=n)] at this;have j:(bI n).filter (λd=>br (d<n)&&T v d)=(bI n).filter (T v):=qo λd g=>(by rw[aH (fN.1 g),anB]);rw[j] at this;refine⟨((bI n).filter (T v)).filter λd=>br (c (v+1)<=d),?_,?_⟩
 ·grind [hO]
 grind
theorem nP.Yo:iw G (az F g):=by
 have d3:=A.zv C D H;have a0:=A.e;have O:∀a,a<=F->jN.cJ (az F g) a=c a:=λa b=>B.cJ C D H A b;have N:oB n (az F g):=by
  refine⟨λa b=>?_,by rw[cI,O F (bc _),a0]⟩;rw[cI] at b;obtain⟨z,_,j,_⟩:=B.ur a b;have s:=A.m a b;have d2:=A.le C D H (aa:a+1<=F) (bc _);refine⟨g a,gV b,?_,?_,?_⟩
  ·rw[j,O a aa]
  ·grind
  grind
 have ce:∀f,f<F->ir (az F g) (f:Z)=hO T f n:=λf R=>(by obtain⟨z,_,j,_⟩:=B.ur f R;grind [y1,cI,k1]);have bs:∀{f i:X},f<F->c f<=i->i<c (f+1)->iN (jN.cJ (az F g)) i (az F g).length=(f:Z):=λ{f i} R d1 j=>(by have s:=cI F g;exact C6 (m:=(az F g).length) (λa b=>⟨b,N.1 a b⟩) aa (by grind) (by grind) _ aa (bc _));unfold iw;rw[C];refine⟨N,λa b=>?_,λa b=>?_,λad d w=>?_⟩
 ·rw[cI] at b;rw[k1];obtain⟨z,_,j,_⟩:=B.ur a b;obtain⟨h,S,p⟩:=B.rows C D H A b;have s:=A.m a b;have bl:(hO T a n).length=(c (a+1)-c a)+h.length:=(by grind);have u:=Td C D H A B a;have q:((c (a+1):Z)-(c a:Z)).toNat=c (a+1)-c a:=aa;rw[j];unfold mV;dsimp only;rw[q];refine⟨aa,λd _ P l=>⟨λQ=>?_,λv=>?_⟩⟩
  ·simp_all
  dsimp only at v l|-;rw[q] at v;have y:(hO T a n)[d]=((h[d-(c (a+1)-c a)]'(by omega):X):Z):=by simp_all
  have o:=(p _).1 (cL (aa:d-(c (a+1)-c a)<h.length));refine⟨aa,aa,?_⟩;exact(iz.1 u) (d-1) d aa aa aa
 ·rw[cI] at b;rw[k1];obtain⟨z,bx,j,d5⟩:=B.ur a b;obtain⟨h,S,p⟩:=B.rows C D H A b;have s:=A.m a b;have bl:(hO T a n).length=(c (a+1)-c a)+h.length:=(by grind);have u:=Td C D H A B a;have q:((c (a+1):Z)-(c a:Z)).toNat=c (a+1)-c a:=aa;have y:∀d (l:d<(hO T a n).length),c (a+1)-c a<=d->∃i,i∈h/\(hO T a n)[d]=(i:Z):=λd l v=>by
   refine⟨h[d-(c (a+1)-c a)]'(by omega),cL _,?_⟩
   simp_all
  rw[j];unfold oF;dsimp only;rw[q];rcases bx with⟨ax,d8⟩|⟨I,f,K,L,ap,cs,rfl,cv,c1,c2,dg⟩
  ·refine .inl ⟨?_,ax⟩;have:h=[]:=aqV.2 λi d7=>by
    grind
   grind
  have co:=(p I).2 ⟨ap,K,L⟩;have d6:0<h.length:=aqT co;refine .inr ⟨aa,?_,λd P l=>?_⟩
  ·obtain⟨J,V,a3⟩:=y (c (a+1)-c a) aa (bc _);obtain⟨dl,ds,d0⟩:=(p J).1 V;have d4:J<=I:=by
    obtain⟨E,ci,U⟩:=g8.1 ((Kl (x:=I) C D H A B (k:=a)).2 ⟨K,L⟩);rcases cU E (c (a+1)-c a) with av|av
    ·simp only[S,jC] at U;rw[List.getElem_append_left (by grind)] at U;grind
    rcases cU (c (a+1)-c a) E with M|M
    ·have:=(iz.1 u) _ E aa ci M;omega
    grind
   grind [alL,cn]
  obtain⟨J,V,a3⟩:=y d l P;grind [Kl]
 intro Q;have a4:ad<n:=(by obtain⟨l,_⟩:=w;omega);have o:d<n:=(by have:=w.lt D;omega);obtain⟨f,r,am,an⟩:=A.own C D H a4;rw[bs r am an,ce f r];refine(Kl C D H A B).2 ⟨o,B.sub f d r o ((A.t f d r o).2 ⟨ad,am,an,wb.2 ⟨aa,.inr ⟨Q,?_⟩⟩⟩)⟩;exact .one w
end
end
end Go.jN
end
