/-
  Parts of the proof: Pl26, Pl27, Pl29, Pl30, Pl32, Pl36, Pl40, Pl41, Pl42, Pl43, Pm13, Pl46, Pl48, Pl50, Pl51, Pl54, Pm14, Pm15, Pm16, Pm17, Pm18, Pm22, Pm24, Pm25, Pm26, Pm27, Pm29, Pm30, Pm31, Pm32, Pm33, Pm52, Pm54, Pm55, Pm57, Pm70, Pm71, Pm72, Pm73, Pm74, Pm75, Th5, Th6, Pm82, Pm83, Pm90, Pm38, Pm41, Pm42, Pm91, Pm84, Pm85, Pm86, Pm87, Pm88, Pm92, Pm93, Pm94, Pm95, Pm89, Pm97, Pm99, Pm100, Pm98, Pm101, Pm102, Pm103, Pm104, Pm105, Pm106, Pm96, Pm107, Pm45, Pm46, Pm47, Pm48, Pm49, Pm108, Pm117: the framework (Fw), pure forms (Dn), plain laws (Pl, Th), calls of functions (Ok).
-/
import Derived.KernelRfl
import Derived.Test.YtnndjinceoekdaaGreatDoorBe56e70ba

set_option linter.all false
set_option maxHeartbeats 1000000
open _root_ renaming Nat->X,Int->Z,Bool->bA,List->bm,Option->bv,Unit->bt,rfl->bn,decide_true->ak4,cond_true->bG,cond_false->bP,decide_eq_decide->aj8,if_true->cj,forall_const->aoj,implies_true->aok,not_true_eq_false->alZ,congrArg->b6,not_not_intro->akw,beq_self_eq_true->akB,decide_eq_true_eq->akt,Decidable->akI,if_pos->b8,if_neg->cc,decide_eq_true->akb,decide_eq_false_iff_not->aon,of_decide_eq_true->amm,decide_eq_false->akC
open Option renaming some->Y,bind_some->bK,map_some->alX,bind->bB,none->bo
open List renaming getElem?_eq_getElem->bX,replicate->bI,getD->alc,range->bJ,pairwise_iff_getElem->cA,getElem_inj->al0,length_range->ank,filter_eq_self->alB,length_filter_le->aky,range_succ->akD,mem_iff_getElem->ak0,take_add_one->akd,getElem_mem->b3,take_of_length_le->cl,mem_cons_self->alY,map_congr_left->aks,mem_of_find?_eq_some->apt,take_sublist->amC,nodup_append->anI,mem_singleton->akc,length_set->ams,map_append->amA,take_length->cB,take_append_drop->amj,decidableBAll->apu,filter->amn,length_pos_of_mem->apw,getElem?_eq_some_iff->akU,pairwise_lt_range->an6,flatMap_def->apx,range'->ako,Nodup->anm,range_eq_range'->aoo,flatMap->ann,eq_nil_iff_forall_not_mem->apy,filter_nil->ani,append_assoc->ald,mem_take_iff_getElem->amB,mem_append_right->amX,getElem?_inj->amR,length->cz,takeWhile_append_dropWhile->aop,foldl_cons->ano,length_map->cg,mem_of_mem_take->apB,range'_concat->apC,nodup_range->aoq,mem_range->al1,mem_filter->apD,length_append->akG,length_singleton->aor,dropWhile_sublist->apE,pairwise_cons->amc,mem_flatMap->amF,getElem_idxOf->anp,length_take->akv,getElem?_eq_none->alM,length_range'->aos,filter_map->anA,map_singleton->apF,take_zero->alV,flatMap_nil->apG,length_cons->an5,getD_eq_getElem?_getD->apH,not_mem_nil->anq,mem_append_left->anV
open Option.some renaming injEq->alo,inj->akS
open Bool renaming true->bq,false->bp,false_and->anN,and_true->am1,true_and->amk
open Go.jy.ae renaming aJ->bE,af->bu,eq_iff->bO,loop->akn,steps->bQ,bs->bz,ite->akP
open Go.IntKind renaming i64->bL,u64->bD
open Go.jy renaming wrap64->cu
open Int renaming toNat_natCast->akE,sub_zero->am8,eq_ofNat_of_zero_le->cy,toNat->akz,mul_ne_zero->amE,mul_eq_zero->amr,mul_zero->alT,add_mul->ane,mul_assoc->amx,mul_comm->akF,lt_irrefl->apA
open Decidable renaming decide->br,not_not->apI
open Go.jy.j9 renaming symm->aol
open List.Perm renaming refl->amD,append_left->am0
open Go.Lib renaming compact->akY,keeps->anj
open Nat renaming lt_or_ge->cn,ble->b2,ble_eq_true_of_le->aps,le_refl->cd,le_trans->cw,mul_le_mul->anh,mul_add_div->aoi,div_eq_of_lt->anf,add_comm->al9,and_two_pow_sub_one_eq_mod->an7,add_assoc->apz,sub_self->alf,lt_succ_self->akQ,beq->bH
open List.Nodup renaming sublist->aom
open List.Pairwise renaming sublist->apq,imp_of_mem->ap3,nil->amb
open List.Sublist renaming append->ap1,refl->ap2
open Rat renaming mul_nonneg->anl
open Classical renaming not_not->apv
open BitVec renaming ofInt->cf
noncomputable section
namespace Go.jy
variable{a b g w:X}{c n o S:aj6}{d l z:Z}{f Q:aj5}{h q:X->X->bA}{j:Type}{k:bm eD}{p:bv (Z×((bm aL×bt)×(bm (bv (bm (Z×de)×X))×bt)))}{r:bm (bm gB)}{t:et}{u:Z->Prop}{v:X->X}{x:bm (bv (bm (Z×de)×X))}{y:X->X->Rat}{O:X->eD}{P:ez}{R:cY}{T:bm (Rat×(X->Rat))}{U:Z->bv (de×bt)}
def cG (a:bm eD):X->X
 |0=>0
 |k+1=>((a[k]?).map λ(b:eD)=>b.2.1.toNat).getD 0
def q8 (d:X) (c:bm eD) (b:X):Prop:=∃a:eD,c[b]?=Y a/\a.1=(cG c b:Z)/\(cG c b:Z)<a.2.1/\a.2.1<=(d:Z)
def oe (c:X) (a:bm eD):Prop:=(∀b,b<a.length->q8 c a b)/\cG a a.length=c
theorem VP (b:a<k.length) (c:0<=k[a].2.1):(cG k (a+1):Z)=k[a].2.1:=by grind [bX,cG]
theorem q8.at (h:a<k.length) (c:q8 b k a):k[a].1=(cG k a:Z)/\k[a].2.1=(cG k (a+1):Z)/\cG k a<cG k (a+1)/\cG k (a+1)<=b:=by obtain⟨i,d,e,f,g⟩:=c;grind [VP,alo,bX]
theorem VO (f:∀e,e<a->e<k.length/\q8 b k e):∀d c,d<=c->c<=a->cG k d<=cG k c:=by
 intro d c m
 induction c with
 |zero=>grind
 |succ c j=>
  intro n;rcases cT d (c+1) with g|g
  ·have l:=j aa aa;obtain⟨h,i⟩:=f c aa;have:=i.at h;omega
  grind
theorem CM {m:X} (e:∀a,a<m->a<k.length/\q8 g k a) (n:a<m) (h:cG k a<=b) (i:b<cG k (a+1)):∀c,a<c->c<=m->iB (cG k) b c=(a:Z):=by
 intro c
 induction c with
 |zero=>omega
 |succ d o=>
  intro j l;rcases cT a d with f|f
  ·have:=VO e (a+1) d aa aa;grind [jy.iB]
  obtain rfl:d=a:=aa;simp_all [aw,jy.iB]
theorem CL (e:oe b k) (f:a<b):∃c,c<k.length/\cG k c<=a/\a<cG k (c+1):=by
 have g:∀d,d<=k.length->a<cG k d->∃c,c<d/\cG k c<=a/\a<cG k (c+1):=by
  intro d
  induction d with
  |zero=>intro _ e;exact absurd e (sH _)
  |succ d j=>
   grind
 obtain⟨c,h,i⟩:=g k.length (bd _) (by rw[e.2];exact f);grind
theorem Wd (b:bm eD) (D:a<=200) (C:b.length<4611686018427387904):ae (Ew (b,(a:Z),())) (λf=>(f.2.1=bq↔oe a b)/\(oe a b->f.1=az a (λg=>iB (cG b) g b.length))):=by
 classical
 unfold Ew;refine bE (P:=λv=>match v with|.inl f=>(∀c,c<b.length->q8 a b c)/\f.1=az (cG b b.length) (λg=>iB (cG b) g b.length)|.inr f=>¬oe a b/\f=([],bp,())) ?_ ?_
 ·refine ae.for b.length (λc w=>(∀d,d<c->d<b.length->q8 a b d)/\w.1=az (cG b c) (λg=>iB (cG b) g c)) (i0:=0) rfl ⟨λd e=>by omega,bn⟩ (eU _) ?_ ?_
  ·rintro c ⟨u,⟨⟩⟩ _ k ⟨p,i⟩;simp only at i;subst i;have q:∀d,d<c->d<b.length/\q8 a b d:=λd o=>⟨aa,p d o aa⟩;have B:cG b c<=a:=by
    cases c with
    |zero=>exact eU _
    |succ c=>exact((q c aa).2.at aa).2.2.2
   have s:=gg (bi k);simp(disch:=omega) only[c3,aw,s,aE,cN,fL];have A:¬(b[c].1=(cG b c:Z)/\(cG b c:Z)<b[c].2.1/\b[c].2.1<=(a:Z))->¬oe a b:=λe l=>(by obtain⟨E,j,n⟩:=l.1 c k;grind);by_cases h:b[c].1=(cG b c:Z)
   ·by_cases x:b[c].2.1<=b[c].1
    ·simp only[h,ak4,ir,show(bp==bp)=bq from rfl,bG,aF (aa:b[c].2.1<=(cG b c:Z)),show(bq==bp)=bp from rfl,bP,aE];grind [bu]
    by_cases m:b[c].2.1>(a:Z)
    ·simp only[h,ak4,ir,show(bp==bp)=bq from rfl,bG,aA (aa:¬b[c].2.1<=(cG b c:Z)),aF m,aE];grind [bu]
    have r:q8 a b c:=⟨b[c],bi k,h,aa,aa⟩;obtain⟨j,n,y,z⟩:=r.at k;have t:bL.wrap (b[c].2.1-b[c].1)=((cG b (c+1)-cG b c:X):Z):=(by rw[j,n,agB aa aa]);simp only[h,ak4,ir,show(bp==bp)=bq from rfl,bG,aA (aa:¬b[c].2.1<=(cG b c:Z)),aA m,bP,aE];rw[<-h];rw[t,Ux _ aa aa];simp(disch:=omega) only[aE,sC,eS,ls,cN];refine bu.2 ⟨bn,λd o e=>?_,?_⟩
    ·grind
    show az (cG b c) (λg=>iB (cG b) g c)++bI (cG b (c+1)-cG b c) (c:Z)=_;grind [db,iQ,AN,jy.iB,cG]
   simp only[aA h,od,show(bq==bp)=bp from rfl,bP,bG,aE];grind [bu]
  simp_all [c3,au,bu]
 rintro(⟨u,⟨⟩⟩|f) e
 ·obtain⟨j,i⟩:=e;simp only at i;subst i;simp only[cN];refine bu.2 ⟨?_,λl=>?_⟩
  ·show(((cG b b.length:X):Z)==(a:Z))=bq↔_;rw[beq_iff_eq];exact⟨λe=>⟨j,aa⟩,λe=>by have:=e.2;omega⟩
  show az (cG b b.length) _=_;rw[l.2]
 grind [bu]
def rn (c:X) (a:eD) (b:X):Prop:=∀d:b<a.2.2.1.length,(b<(a.2.1-a.1).toNat->a.2.2.1[b]=a.1+(b:Z))/\((a.2.1-a.1).toNat<=b->a.2.1<=a.2.2.1[b]/\a.2.2.1[b]<(c:Z)/\a.2.2.1[b-1]<a.2.2.1[b])
def mE (c:X) (a:eD):Prop:=(a.2.1-a.1).toNat<=a.2.2.1.length/\∀b,0<=b->b<a.2.2.1.length->rn c a b
theorem afa {n:X} {x:eD} (o:0<=x.1) (p:x.1<x.2.1) (q:x.2.1<=(n:Z)) (s:n<=200) (r:x.2.2.1.length<4611686018427387904):Ey (x,(n:Z),())=Y ((open Classical in decide (mE n x)),()):=by
 classical
 obtain⟨b,j⟩:∃b:X,x.2.1-x.1=(b:Z):=⟨(x.2.1-x.1).toNat,aa⟩;have t:(x.2.1-x.1).toNat=b:=aa;unfold Ey;simp only[j,GJ (aa:b<9223372036854775808),c3];by_cases l:b<=x.2.2.1.length
 ·rw[au aa];refine ai (Fp (τ:=bt) x.2.2.1.length (rn n x) () (.inl ()) (.inr (bp,())) 0 bn (eU _) ?_ ?_) ?_
  ·intro a _ i _;have h:=gg (bi i);rw[aw aa,h];simp only[aE,HR,fL];by_cases m:a<b
   ·rw[aw aa,cu aa aa];simp only[aE];by_cases c:x.2.2.1[a]=x.1+(a:Z)
    ·have:rn n x a:=λ_=>⟨λ_=>c,λg=>by omega⟩;rw[aw this,aF c];simp(disch:=omega) only[ir,bP,au,aE,ls]
    simp_all [au,aA,rn]
   rw[au aa];simp only[aE,bP];rw[aw aa];simp only[CR];have k:ar x.2.2.1 (bL.wrap ((a:Z)-1))=Y (x.2.2.1[a-1]'(by omega)):=by grind [gg,bX,B4]
   by_cases c:x.2.2.1[a]<x.2.1
   ·grind [rn]
   rw[au c];by_cases e:x.2.2.1[a]>=(n:Z)
   ·grind [rn]
   rw[au e,k];simp only[aE];by_cases f:x.2.2.1[a]<=x.2.2.1[a-1]
   ·grind [rn]
   have:rn n x a:=λ_=>⟨λg=>by omega,λ_=>⟨aa,aa,aa⟩⟩;rw[aw this,au f];grind [ls]
  ·grind
  by_cases d:∀a,0<=a->a<x.2.2.1.length->rn n x a
  ·rw[aw d,aF (show mE n x from⟨aa,d⟩)]
  simp_all [au,aA,mE]
 simp_all [aw,aA,mE]
def ie (a:bm eD) (b:Z):aj6:=((a[b.toNat]?).map λ(c:eD)=>c.2.2.1).getD []
def oo (c:bm eD) (a:eD):Prop:=
 (a.2.2.1.length=(a.2.1-a.1).toNat/\a.2.2.2.1=-1)\/
 (∃d:(a.2.1-a.1).toNat<a.2.2.1.length,a.2.2.2.1=iB (cG c) (a.2.2.1[(a.2.1-a.1).toNat]).toNat c.length/\∀b,(a.2.1-a.1).toNat<=b->(e:b<a.2.2.1.length)->a.2.2.1[b]∈ie c a.2.2.2.1)
theorem mE.asc {b:eD} (f:0<=b.1) (g:b.1<b.2.1) (c:mE a b):b.2.2.1.Pairwise (· < ·):=by rw[Bs];intro e d;have ay:=c.2 e (eU _) aa aa;have h:=c.2 (e+1) (eU _) d d;grind
theorem yF (b:a<k.length):ie k (a:Z)=k[a].2.2.1:=by grind [akE,bX,ie]
theorem LI {v:Z} (b:c.length<4611686018427387904) (d:c.Pairwise (· < ·)):∃a,vd (c,v,())=Y (a,br (v∈c),()):=by obtain⟨⟨a,e,⟨⟩⟩,f,g⟩:=LJ c v b d;grind
theorem Y6 (V:b<=200) (n:oe b k) (w:∀L∈k,L.2.2.1.length<4611686018427387904) (u:∀a,(r:a<k.length)->mE b k[a]) (h:a<k.length):Ex (k,az b (λz=>iB (cG k) z k.length),k[a],())=Y ((open Classical in decide (oo k k[a])),()):=by
 classical
 have t:=(n.1 a h).at h;have p:=u a h;have D:=w _ (cF h);generalize am:k[a]=c at t p D;obtain⟨N,O,P,Q⟩:=t;obtain⟨d,F⟩:∃d:X,c.2.1-c.1=(d:Z):=⟨(c.2.1-c.1).toNat,aa⟩;have x:(c.2.1-c.1).toNat=d:=aa;have G:=p.1;rw[x] at G;unfold Ex;simp(disch:=omega) only[F,GJ (aa:d<9223372036854775808),vW,aE,vI,ji,hM,nF,c3,fY,fL];by_cases R:c.2.2.1.length=d
 ·rw[aw aa];have:br (c.2.2.2.1=-1)=br (oo k c):=by
   simp_all [aj8,oo]
  grind
 have o:d<c.2.2.1.length:=aa;have ad:=(p.2 d (eU _) o o).2 aa;obtain⟨j,y⟩:∃j:X,c.2.2.1[d]=(j:Z):=⟨(c.2.2.1[d]).toNat,aa⟩;have K:j<b:=aa;have A:ar (c.2.2.1.drop d) 0=Y (j:Z):=(by grind [gg]);rw[au aa];simp(disch:=omega) only[A,aE,rS];obtain⟨f,g,H,I⟩:=CL n K;have q:iB (cG k) j k.length=(f:Z):=CM (m:=k.length) (λa h=>⟨h,n.1 a h⟩) g H I k.length g (bd _);rw[q];have T:oo k c↔c.2.2.2.1=(f:Z)/\∀e,0<=e->e<c.2.2.1.length-d->c.2.2.1.getD (d+e) 0∈k[f].2.2.1:=by
  unfold oo;rw[x];constructor
  ·rintro(r|⟨r,i,l⟩)
   ·omega
   rw[y,fU,q] at i;grind [bX,yF]
  rintro⟨i,l⟩;refine .inr ⟨o,by rw[y,fU,q,i],λe s S=>?_⟩;rw[i,yF g];have:=l (e-d) (eU _) aa;grind
 by_cases s:c.2.2.2.1=(f:Z)
 ·simp only[s,ak4,ir,bP];have B:k[f].2.2.1.Pairwise (· < ·):=by
   have:=(n.1 f g).at g;exact(u f g).asc aa aa
  have J:=w _ (cF g);refine ai (Fp (τ:=bt) (c.2.2.1.length-d) (λe=>c.2.2.1.getD (d+e) 0∈k[f].2.2.1) () (.inl ()) (.inr (bp,())) 0 bn (eU _) ?_ ?_) ?_
  ·intro e _ U _;have i:ar (c.2.2.1.drop d) (e:Z)=Y (c.2.2.1.getD (d+e) 0):=by
    grind [bX,gg]
   have l:ar k (f:Z)=Y k[f]:=gg (bi g);obtain⟨M,C⟩:=LI (v:=c.2.2.1.getD (d+e) 0) J B;rw[aw aa,i,l];simp only[aE,C];by_cases E:c.2.2.1.getD (d+e) 0∈k[f].2.2.1
   ·simp(disch:=omega) only[E,ak4,ir,bP,cj,ls]
   grind
  ·grind
  grind
 grind
section
theorem Wj {l:bm eD} (B:a<=200) (F:l.length<4611686018427387904) (e:oe a l) (D:∀i∈l,i.2.2.1.length<4611686018427387904):DJ (l,(Y (a:Z),()),())=Y ((open Classical in decide (¬∀b,(d:b<l.length)->mE a l[b])),()):=by
 classical
 rw[<-bO];unfold DJ;refine bE (P:=λh=>0<=h.1↔¬∀b,(d:b<l.length)->mE a l[b]) ?_ ?_
 ·unfold H8;refine bE (JB l.length (λb=>∀d:b<l.length,mE a l[b]) ?_ ?_) ?_
  ·intro b c;have f:=gg (bi c);obtain⟨j,k,m,o⟩:=(e.1 b c).at c;have g:=afa (n:=a) (x:=l[b]) aa aa aa B (D _ (cF c));simp(disch:=omega) only[c3,aw,f,aE,Ii,g];by_cases d:mE a l[b]
   ·simp(disch:=omega) only[d,ak4,ir,bP,c,aoj,cj,ls]
   grind
  ·grind
  grind [bu]
 grind [bu,ge_iff_le]
theorem Wk {l:bm eD} (B:a<=200) (F:l.length<4611686018427387904) (e:oe a l) (D:∀k∈l,k.2.2.1.length<4611686018427387904) (f:∀b,(c:b<l.length)->mE a l[b]):DK (l,(Y l,Y (az a (λj=>iB (cG l) j l.length)),()),())=Y ((open Classical in decide (¬∀b,(c:b<l.length)->oo l l[b])),()):=by
 classical
 rw[<-bO];unfold DK;refine bE (P:=λi=>0<=i.1↔¬∀b,(c:b<l.length)->oo l l[b]) ?_ ?_
 ·unfold H9;refine bE (JB l.length (λb=>∀c:b<l.length,oo l l[b]) ?_ ?_) ?_
  ·intro b d;have g:=gg (bi d);have h:=Y6 B e D f d;simp(disch:=omega) only[c3,aw,g,aE,Ij,h];by_cases c:oo l l[b]
   ·simp(disch:=omega) only[c,ak4,ir,bP,d,aoj,cj,ls]
   grind
  ·grind
  grind [bu]
 grind [bu,ge_iff_le]
def T1 (A:et) (l:bm eD) (b a:X):Prop:=b<a->(a:Z)∈ie l (iB (cG l) b l.length)
def iu (A:et) (l:bm eD):Prop:=oe A.length l/\(∀a,(d:a<l.length)->mE A.length l[a])/\(∀a,(d:a<l.length)->oo l l[a])/\∀c b,j9 A c b->T1 A l c b
def EP (A:et) (l:bm eD):Z:=if i7 A≠0 then i7 A else(open Classical in if iu A l then 0 else 211)
section
variable {A:et} (C:fu A) (B:A.length<=200) {l:bm eD} (F:l.length<4611686018427387904) (D:∀y∈l,y.2.2.1.length<4611686018427387904)
include C B F D
theorem Xq:vp ((A,()),l,())=Y ((open Classical in if iu A l then 0 else 211),()):=by
 classical
 have I:=C.hc B;unfold vp;simp only[GL A I,uV.2 ⟨B,C⟩,aE,fL,ak4,ir,bP];obtain⟨⟨ap,T,⟨⟩⟩,z,t,u⟩:=Wd l B F;simp only at t u;simp only[z,aE,CR];by_cases f:oe A.length l
 ·have w:=t.2 f;have O:=u f;subst w O;simp only[ir,show(bp==bp)=bq from rfl,bG,Wj B F f D,aE];by_cases j:∀b,(d:b<l.length)->mE A.length l[b]
  ·simp only[j,aok,alZ,decide_false,bP,aE,Wk B F f D j];by_cases q:∀b,(d:b<l.length)->oo l l[b]
   ·simp only[q,aok,alZ,decide_false,bP];have V:iu A l↔∀a,0<=a->a<A.length->∀d:a<A.length,∀b,0<=b->b<A[a].length->∀c:b<A[a].length,A[a][b]<=(a:Z)->(a:Z)∈ie l (iB (cG l) A[a][b].toNat l.length):=by
     constructor
     ·rintro⟨_,_,_,E⟩ a _ _ d b _ _ c M;have R:=(C.asc a d).2 _ (cF c);obtain⟨e,n⟩:∃e:X,A[a][b]=(e:Z):=⟨A[a][b].toNat,aa⟩;have o:j9 A a e:=⟨d,n▸cF c⟩;have am:=o.ne C;rw[n,fU];exact E e a (aol C _ _ o) aa
     intro d;refine⟨f,j,q,λe a o ad=>?_⟩;have S:=aol C _ _ o;obtain⟨b,c,s⟩:=g1.1 S.2;grind
    rw[show(if iu A l then(0:Z) else 211)=if(∀a,0<=a->a<A.length->∀d:a<A.length,∀b,0<=b->b<A[a].length->∀c:b<A[a].length,A[a][b]<=(a:Z)->(a:Z)∈ie l (iB (cG l) A[a][b].toNat l.length)) then 0 else 211 from by grind];refine ai (Fp (τ:=aj6×bt) A.length (λa=>∀d:a<A.length,∀b,0<=b->b<A[a].length->∀c:b<A[a].length,A[a][b]<=(a:Z)->(a:Z)∈ie l (iB (cG l) A[a][b].toNat l.length)) (az A.length (λi=>iB (cG l) i l.length),()) (.inl ()) (.inr (211,())) 0 bn (eU _) ?_ ?_) ?_
    ·intro a _ k _;have J:=gg (bi k);have an:=C.rows _ (cF k);simp(disch:=omega) only[c3,aw,J,aE];refine ai (Fp (τ:=aj6×bt) A[a].length (λb=>∀c:b<A[a].length,A[a][b]<=(a:Z)->(a:Z)∈ie l (iB (cG l) A[a][b].toNat l.length)) (az A.length (λi=>iB (cG l) i l.length),()) (.inl (az A.length (λi=>iB (cG l) i l.length),())) (.inr (.inr (.inr (211,())))) 0 bn (eU _) ?_ ?_) ?_
     ·intro b _ c _;have K:=gg (bi c);have R:=(C.asc a k).2 _ (cF c);obtain⟨e,n⟩:∃e:X,A[a][b]=(e:Z):=⟨A[a][b].toNat,aa⟩;simp(disch:=omega) only[aw,K,aE,n,c,aoj,fU];by_cases r:(e:Z)>(a:Z)
      ·have:(e:Z)<=(a:Z)->(a:Z)∈ie l (iB (cG l) e l.length):=λd=>aa;rw[aw r,aw this];grind [ls]
      obtain⟨h,g,P,Q⟩:=CL f (aa:e<A.length);have L:iB (cG l) e l.length=(h:Z):=CM (m:=l.length) (λb c=>⟨c,f.1 b c⟩) g P Q l.length g (bd _);have y:ar l (h:Z)=Y l[h]:=gg (bi g);have G:l[h].2.2.1.Pairwise (· < ·):=(by have:=(f.1 h g).at g;exact(j h g).asc aa aa);obtain⟨U,H⟩:=LI (v:=(a:Z)) (D _ (cF g)) G;rw[au r];simp(disch:=omega) only[rS,aE,L,y,H,yF g];have M:(e:Z)<=(a:Z):=aa;by_cases N:(a:Z)∈l[h].2.2.1
      ·simp(disch:=omega) only[N,ak4,ir,bP,aE,aok,cj,ls]
      grind
     ·grind
     have s:(∀d:a<A.length,∀b,0<=b->b<A[a].length->∀c:b<A[a].length,A[a][b]<=(a:Z)->(a:Z)∈ie l (iB (cG l) A[a][b].toNat l.length))↔(∀b,0<=b->b<A[a].length->∀c:b<A[a].length,A[a][b]<=(a:Z)->(a:Z)∈ie l (iB (cG l) A[a][b].toNat l.length)):=⟨λp=>p k,λp _=>p⟩;by_cases x:∀b,0<=b->b<A[a].length->∀c:b<A[a].length,A[a][b]<=(a:Z)->(a:Z)∈ie l (iB (cG l) A[a][b].toNat l.length)
     ·simp(disch:=omega) only[aw x,aw (s.2 x),ls]
     grind
    ·grind
    grind
   have:¬iu A l:=λd=>q d.2.2.1;grind
  have:¬iu A l:=λd=>j d.2.1;grind
 have w:T=bp:=(by grind);have:¬iu A l:=λd=>f d.1;grind
end
section
variable {A:et} (C:fu A) (B:A.length<=200) {l:bm eD} (F:l.length<4611686018427387904) (D:∀y∈l,y.2.2.1.length<4611686018427387904)
include C B F D
end
theorem T9 {A:et} (c:∀l∈A,l.length<4611686018427387904) {l:bm eD} (F:l.length<4611686018427387904) (D:∀b∈l,b.2.2.1.length<4611686018427387904):vp ((A,()),l,())=Y (EP A l,()):=by
 unfold EP;by_cases a:i7 A=0
 ·obtain⟨B,C⟩:=uV.1 a;rw[au aa];grind [Xq]
 simp_all [aw,GL,aE,fL,aA,od,bG,vp]
end
section
def cZ (a:aj5):aj6:=a.map λ(b:X)=>(b:Z)
theorem vV (a b:aj5):cZ (a++b)=cZ a++cZ b:=by simp[cZ]
theorem jI (a:aj5):(cZ a).length=a.length:=by simp[cZ]
section
variable {n:X} {f:X->Z} (A:G0 n f) (B:n<=200)
include A B
end
end
section
theorem xY {b:bm j} (d:a<b.length) (c:j):b.getD a c=b[a]:=by simp only[alc,bi d,wX]
section
variable {A:et} (B:fu A) (C:A.length<=200)
include B C
end
end
section
theorem Ns {A:et} (B:fu A) (c:d∈g4 A a):∃b:X,d=(b:Z)/\b<A.length/\a<=b:=by have e:=c;unfold g4 uZ at c;grind
section
variable {A:et} (B:fu A) (C:A.length<=200)
include B C
section
variable {D:aj6} {m:X} {s e:X->X} (F:TW A.length (Rk A)) (G:L4 A.length (Rk A) D m s e)
include F G
end
def wO (a:bm eD) (c b:X):Prop:=b<a.length/\cG a b<=c/\c<cG a (b+1)
omit B C in
theorem wO.last (e:oe g k) (c:wO k b a):iB (cG k) b k.length=(a:Z):=
 CM (m:=k.length) (λf d=>⟨d,e.1 f d⟩) c.1 c.2.1 c.2.2 k.length c.1 (bd _)
end
end
def iu.parent (q:iu t k) (f:a<k.length):(k[a].2.2.2.1=-1\/∃c:X,k[a].2.2.2.1=(c:Z)/\c<k.length)/\∀b,(d:b<k[a].2.2.1.length)->k[a].2.1<=k[a].2.2.1[b]->∃c:X,k[a].2.2.2.1=(c:Z)/\c<k.length/\k[a].2.2.1[b]∈ie k (c:Z):=by
 obtain⟨j,r,p,_⟩:=q;obtain⟨z,A,B,C⟩:=(j.1 a f).at f;have l:=r a f;rcases p a f with⟨h,e⟩|⟨h,e,o⟩
 ·refine⟨.inl e,λb d v=>?_⟩;have:=(l.2 b (eU _) d d).1 aa;omega
 have y:=(l.2 _ (eU _) h h).2 (bd _);obtain⟨g,n⟩:∃g:X,k[a].2.2.1[(k[a].2.1-k[a].1).toNat]=(g:Z):=⟨(k[a].2.2.1[(k[a].2.1-k[a].1).toNat]).toNat,aa⟩;rw[n] at y;obtain⟨c,m,w,x⟩:=CL j (aa:g<t.length);have u:=wO.last j (⟨m,w,x⟩:wO k g c);rw[n,fU,u] at e;refine⟨.inr ⟨c,e,m⟩,λb d v=>?_⟩;refine⟨c,e,m,?_⟩;have s:(k[a].2.1-k[a].1).toNat<=b:=by
  rcases cT b (k[a].2.1-k[a].1).toNat with i|i
  ·have:=(l.2 b (eU _) d d).1 i;omega
  exact i
 have:=o b s d;rw[e] at this;exact this
structure o8 {α:Type} (lt:α->α->bA):Prop where
 Vr:∀a b,lt a b=bq->lt b a=bp
 trans:∀a b c,lt b a=bp->lt c b=bp->lt c a=bp
theorem o8.int:o8 (λa b:Z=>br (a<b)):=⟨λa b d=>by grind,λa b c e f=>by grind⟩
def us {b:Type} (g:b->b->bA) (c:X->b) (e f:X):Prop:=∀d a,d<a->a<=e->a≠f->g (c a) (c d)=bp
def o9 {b:Type} (f:b->b->bA) (c:X->b) (e:X):Prop:=∀d a,d<a->a<e->f (c a) (c d)=bp
def swp {c:Type} (b:X->c) (a:X):X->c:=eB (eB b a (b (a-1))) (a-1) (b a)
def S6 (b:X->j) (c:X):swp b a c=if c=a-1 then b a else if c=a then b (a-1) else b c:=rfl
def us.swp {k:Type} {h:k->k->bA} (m:o8 h) {f:X->k} {j a:X} (g:us h f j a) (q:0<a) (r:a<=j) (n:h (f a) (f (a-1))=bq):us h (swp f a) j (a-1):=by
 intro e b p i o;rw[S6,S6,au o];by_cases c:b=a
 ·subst c;rw[aw bn];by_cases d:e=b-1
  ·rw[aw d];exact m.Vr _ _ n
  rw[au d,au aa];exact g e (b-1) aa aa aa
 rw[au c];by_cases d:e=a-1
 ·rw[aw d];exact g a b aa i c
 rw[au d];by_cases l:e=a
 ·rw[aw l];exact g (a-1) b aa i c
 rw[au l];exact g e b p i c
theorem us.done {h:Type} {d:h->h->bA} (k:o8 d) {b:X->h} {f a:X} (j:us d b f a) (n:a<=f) (c:a=0\/d (b a) (b (a-1))=bp):o9 d b (f+1):=by
 intro g e l o;by_cases i:e=a
 ·subst i;rcases c with c|c
  ·omega
  by_cases m:g=e-1
  ·grind
  exact k.trans _ _ _ (j g (e-1) aa aa aa) c
 exact j g e l aa i
theorem S7 {c:X->j} (f:0<a) (g:a<b):(az b (swp c a)).Perm (az b c):=by have d:a<(az b c).length:=(by grind [cN]);have e:a-1<(az b c).length:=aa;have:=List.set_set_perm d e;rw[lJ,lJ,hx,hx] at this;exact this
theorem EN [Inhabited j] (a:bm j):a=az a.length (λb=>a[b]?.getD default):=Xm a _ (λb c=>by grind)
theorem Yr (b:aj6) (C:b.length<=1000):ae (DR (b,0,(b.length:Z),())) (λd=>∃a,d.1=az b.length a/\o9 (λf g=>br (f<g)) a b.length/\d.1.Perm b):=by
 unfold DR;simp only[];generalize t:b.length=c at*;have u:bL.wrap (0+1)=((1:X):Z):=(by grind [cu]);rw[u];rcases rk c with z|w
 ·subst z;refine bE (P:=λd=>d.1=b) ?_ ?_
  ·refine akn (λj=>j=(((1:X):Z),b,())) (λ_=>0) rfl ?_;rintro _ rfl;simp only[c3];rw[au aa];grind [bu]
  rintro⟨d,_⟩ rfl;refine bu.2 ⟨λ_=>0,?_,λm n o p=>by omega,amD _⟩;show d=[];grind
 refine bE (P:=λd=>∃a,d.1=az c a/\o9 (λf g=>br (f<g)) a c/\d.1.Perm b) ?_ (λd y=>bu.2 y);refine ae.for c (λh A=>∃a,A=(az c a,())/\o9 (λf g=>br (f<g)) a h/\(az c a).Perm b) rfl ⟨λh=>b[h]?.getD default,?_,λm n o p=>by omega,?_⟩ w ?_ ?_
 ·rw[<-t,<-EN]
 ·rw[<-t,<-EN]
 ·rintro h _ o p ⟨a,rfl,q,i⟩;simp only[c3];rw[aw aa];refine bE (P:=λd=>∃a,d=(az c a,())/\o9 (λf g=>br (f<g)) a (h+1)/\(az c a).Perm b) ?_ ?_
  ·refine akn (λj=>∃(e:X) (a:X->Z),j=((e:Z),az c a,())/\e<=h/\us (λf g=>br (f<g)) a h e/\(az c a).Perm b) (λj=>j.1.toNat) ⟨h,a,bn,bd _,λm n x E D=>q m n x aa,i⟩ ?_;rintro _ ⟨e,a,rfl,l,k,i⟩;simp only[HR];by_cases r:0<e
   ·have B:e-1<c:=aa;have v:e<c:=aa;simp(disch:=omega) only[aw,cN,B4,fc,gO,aE,LY,c3];by_cases s:a e<a (e-1)
    ·rw[aw s];simp(disch:=omega) only[aE,cN,B4,fc,gO,hx];refine bu.2 ⟨⟨e-1,swp a e,bn,aa,k.swp o8.int r l (by grind),(S7 r v).trans i⟩,?_⟩;omega
    rw[au s];exact bu.2 ⟨a,bn,k.done o8.int l (.inr (by grind)),i⟩
   rw[au aa];exact bu.2 ⟨a,bn,k.done o8.int l (.inl aa),i⟩
  grind [ls,bu]
 rintro _ ⟨a,rfl,q,i⟩;simp only[c3];rw[au aa];grind [bu]
theorem o9.pairwise {b:X->Z} (e:o9 (λc d=>br (c<d)) b a):(az a b).Pairwise (· <= ·):=by rw[ik];intro g h i j f;rw[lJ,lJ];have:=e g h f (by grind [cN]);grind
theorem LX (a:X) (c:a<=12):∃b,DA ((a:Z),())=Y (b,()):=by
 have:a=0\/a=1\/a=2\/a=3\/a=4\/a=5\/a=6\/a=7\/a=8\/a=9\/a=10\/a=11\/a=12:=aa;rcases this with rfl|rfl|rfl|rfl|rfl|rfl|rfl|rfl|rfl|rfl|rfl|rfl|rfl
 ·exact⟨0,by kernel_rfl⟩
 ·exact⟨1,by kernel_rfl⟩
 ·exact⟨2,by kernel_rfl⟩
 ·exact⟨2,by kernel_rfl⟩
 ·exact⟨3,by kernel_rfl⟩
 ·exact⟨3,by kernel_rfl⟩
 ·exact⟨3,by kernel_rfl⟩
 ·exact⟨3,by kernel_rfl⟩
 ·exact⟨4,by kernel_rfl⟩
 ·exact⟨4,by kernel_rfl⟩
 ·exact⟨4,by kernel_rfl⟩
 ·exact⟨4,by kernel_rfl⟩
 exact⟨4,by kernel_rfl⟩
theorem adl (a:aj6) (c:Z) (h:a.length<=12):ae (DU (a,0,(a.length:Z),c,())) (λb=>b.1.Pairwise (· <= ·)/\b.1.Perm a):=by obtain⟨b,i,g,f,e,d⟩:=Yr a aa;refine⟨b,?_,by rw[f];exact e.pairwise,d⟩;unfold DU;dsimp only;rw[PA];dsimp only;have j:bL.wrap ((a.length:Z)-0)=((a.length:X):Z):=(by rw[am8];grind [GJ]);grind
theorem Uz (a:aj6) (c:a.length<=12):ae (Ad (a,())) (λb=>b.1.Pairwise (· <= ·)/\b.1.Perm a):=by grind [bE,adl,bu,LX,LC,Ad]
section
open Go
theorem Wh (h:c.Pairwise (· <= ·)):(akY c).length<c.length↔¬c.Nodup:=by
 have g:(akY c).length=((bJ c.length).filter (anj c.toArray)).length:=(by simp[akY,Lib.compactUpTo]);have e:(∀a,a<c.length->anj c.toArray a=bq)↔c.Nodup:=by
  have f:∀a,(b:a<c.length)->(anj c.toArray a=bq↔a=0\/c[a]≠c[a-1]):=λa b=>(by grind [anj]);constructor
  ·intro b;have d:c.Pairwise (· < ·):=by
    grind [cA,Bs]
   exact d.imp (λb=>by omega)
  grind [al0]
 grind [cn,ank,List.length_filter_eq_length_iff,alB,aky]
def afX (a:aj6) (e:a.length<=12):Da (a,())=Y (br (¬a.Nodup),()):=by obtain⟨c,g,h,b⟩:=Uz a e;have f:=b.length_eq;unfold Da BX;simp only[g,ji,aE];rw[show b2 a.length 1000000=bq from aps aa];simp only[bG];rw[show b2 c.1.length 1000000=bq from aps aa];simp only[bG,ji];have d:br ((akY c.1).length<a.length)=br (¬a.Nodup):=(by rw[aj8,<-f,Wh h,b.nodup_iff]);rw[d]
def im (a:X) (b:X->X->bA):er:=az a λc=>az a (b c)
theorem Bb (a:X) (b:X->X->bA):(im a b).length=a:=cN a _
def PI (d:∀b c,b<a->c<a->h b c=q b c):im a h=im a q:=db λb e=>db λc f=>d b c e f
theorem L2 (a:X) (e:a<=4294967296):zS ((a:Z),())=Y (im a λ_ _=>bp,()):=by
 unfold zS;simp only[];rw[h0 e];simp only[aE];refine ai (y:=(im a λ_ _=>bp,())) (A7 a (λd=>(az a (λb=>if b<d then bI a bp else[]),())) 0 bn ?_ (eU _) ?_ ?_) rfl
 ·rw[iQ];simp
 ·intro d _ f;simp(disch:=omega) only[cN,sC,c3,aw,aE,fc,gO,hx,ls];congr 4;refine db λb c=>?_;simp only[eB];grind
 simp only[sC,c3];rw[au aa];congr 2;refine b6 (·,()) (db λb c=>?_);rw[aw c,iQ]
theorem LW {n:X} {B:X->X->bA} {i j:X} (k:i<n) (l:j<n):zV (im n B,(i:Z),(j:Z),())=Y (im n (λa b=>B a b||(br (i≠j)&&((br (a=i)&&br (b=j))||(br (a=j)&&br (b=i))))),()):=by
 unfold zV;simp only[fL];by_cases e:i=j
 ·simp_all
 rw[aA (aa:¬((i:Z)=(j:Z)))];unfold im;simp(disch:=omega) only[od,bG,cN,fc,aE,gO,ji,hx];rw[show eB (λg=>az n (B g)) i (az n (eB (B i) j bq)) j=az n (B j) from hb _ _ (λd=>e d.symm)];simp(disch:=omega) only[cN,fc,aE,gO,ji,hx];congr 2;refine db λa h=>?_;simp only[eB];by_cases c:a=j
 ·rw[aw c,c];grind [db,eB]
 rw[au c];by_cases f:a=i
 ·subst f;rw[aw bn];grind [db,eB]
 simp_all
theorem Uh (j:b<=4294967296) (f:a<b):C7 (im b h,(a:Z),())=Y (cZ ((bJ b).filter (h a)),()):=by
 unfold C7;simp only[];rw[show ar (im b h) (a:Z)=Y (az b (h a)) from rS f];simp only[aE];refine ai (y:=(cZ ((bJ b).filter (h a)),())) (A7 b (λc=>(cZ ((bJ c).filter (h a)),())) 0 bn rfl (eU _) ?_ ?_) rfl
 ·intro c _ g;have i:(cZ ((bJ c).filter (h a))).length<=c:=(by grind [aky,jI]);have e:cZ ((bJ (c+1)).filter (h a))=if h a c=bq then cZ ((bJ c).filter (h a))++[(c:Z)] else cZ ((bJ c).filter (h a)):=by
   grind [akD,vV,cZ]
  simp(disch:=omega) only[cN,c3,aw,rS,aE,ls];rw[e];by_cases d:h a c=bq
  ·rw[aw d,d,eS (by grind)];rfl
  grind
 simp_all [cN,c3,au]
def ke (a:X) (b:X->X->bA):et:=az a λc=>cZ ((bJ a).filter (b c))
theorem LS (e:a<=4294967296):zU (im a h,())=Y ((ke a h,()),()):=by
 unfold zU;simp only[Bb];rw[h0 e];simp only[aE];refine ai (y:=(([],()),(ke a h,()),())) (A7 a (λd=>(([],()),(az a (λb=>if b<d then cZ ((bJ a).filter (h b)) else[]),()),())) 0 bn ?_ (eU _) ?_ ?_) rfl
 ·rw[iQ];simp
 ·intro d _ f;simp(disch:=omega) only[c3,aw,Uh,aE,cN,fc,gO,ji,hx,ls];congr 6;refine db λb c=>?_;simp only[eB];grind
 simp only[c3];rw[au aa];have:(az a λb=>if b<a then cZ ((bJ a).filter (h b)) else[])=ke a h:=db λb c=>(by rw[aw c]);grind
end
section
open Go
def fV (a:aj6) (b:X):Prop:=a.length=b/\(∀c∈a,0<=c/\c<(b:Z))/\a.Nodup
open Classical in
theorem Uq (a:aj6) (c:X) (s:c<=4294967296):DY (a,(c:Z),())=Y (br (fV a c),()):=by
 unfold DY;simp only[fL];by_cases m:a.length=c
 ·rw[aF (aa:(((a.length:X):Z)=(c:Z)))];simp only[ir,bP,h0 s,aE,iQ];rw[<-bO];refine bE (P:=λu=>match u with|.inl _=>fV a c|.inr v=>v=(bp,())/\¬fV a c) ?_ ?_
  ·refine ae.for c (λb w=>w=(az c (λp=>br ((p:Z)∈a.take b)),())/\(∀e,(d:e<a.length)->e<b->0<=a[e]/\a[e]<(c:Z))/\(a.take b).Nodup) (i0:=0) rfl ⟨ac,λe _ d=>by omega,ac⟩ (eU _) ?_ ?_
   ·rintro b _ _ x ⟨rfl,t,q⟩;have l:b<a.length:=aa;have k:ar a (b:Z)=Y a[b]:=gg (bi l);have o:a[b]∈a:=cF l;simp(disch:=omega) only[c3,aw,k,aE,CR];by_cases i:a[b]<0
    ·rw[aw i];exact bu.2 ⟨bn,λd=>by have:=d.2.1 _ o;omega⟩
    rw[au i];by_cases j:a[b]>=(c:Z)
    ·rw[aw j];exact bu.2 ⟨bn,λd=>by have:=d.2.1 _ o;omega⟩
    rw[au j];obtain⟨f,h⟩:∃f:X,a[b]=(f:Z):=⟨a[b].toNat,aa⟩;have B:f<c:=aa;rw[h];simp(disch:=omega) only[cN,fc,aE,gO,c3];by_cases g:(f:Z)∈a.take b
    ·rw[aw g];refine bu.2 ⟨bn,λd=>?_⟩;obtain⟨D,r,n⟩:=g1.1 g;simp only[gn] at r;simp only[List.getElem_take] at n;have:=(p3 d.2.2).1 (n.trans h.symm);omega
    rw[au g];simp(disch:=omega) only[aE,k,h,cN,fc,gO,hx,ls];have A:a.take (b+1)=a.take b++[(f:Z)]:=(by grind [ug]);refine bu.2 ⟨bn,?_,λe y z=>?_,?_⟩
    ·show((_,()):_×bt)=_;refine b6 (·,()) (db λp _=>?_);simp only[eB];grind
    ·grind
    grind
   rintro _ ⟨rfl,t,q⟩;simp(disch:=omega) only[c3,au];refine bu.2 ⟨m,λE C=>?_,?_⟩
   ·grind [ak0]
   grind
  grind [bu,aF,aA]
 rw[aA (aa:¬(((a.length:X):Z)=(c:Z)))];simp only[od,bG];rw[aA (λd=>m d.1)]
def mU (a:et) (b:aj6):Z:=open Classical in if i7 a≠0 then i7 a else if b.length≠a.length then 2 else if fV b a.length then 0 else 90
theorem KO (d:∀h∈t,h.length<4611686018427387904) (a:aj6):tc ((t,()),a,())=Y (if mU t a=0 then((jZ (kf t a),()),0,()) else(([],()),mU t a,())):=by
 classical
 unfold tc mU;simp only[KN t d,aE,fL];by_cases c:i7 t=0
 ·obtain⟨g,e⟩:=uV.1 c;rw[aF c];simp only[ir,bP,c,ne_eq,alZ,if_false];by_cases f:a.length=t.length
  ·rw[aF (aa:(((a.length:X):Z)=((t.length:X):Z)))];simp only[ir,bP,f,alZ,if_false];rw[Uq a t.length aa];simp only[aE];by_cases b:fV a t.length
   ·rw[aF b];simp only[ir,bP,aw b,cj];rw[Ue e d g b.2.1 b.2.2 aa];rfl
   grind
  grind
 grind
theorem ags (b:et) (a:Z):Db ((b,()),a,())=Y (br (0<=a/\a<(b.length:Z)),()):=by unfold Db;grind
theorem ada (d:et) (a:aj6) (j:a.length<4611686018427387904):DM (a,(Y (d,()),()),())=Y (br (¬∀c∈a,0<=c/\c<(d.length:Z)),()):=by
 classical
 unfold DM Ia;simp only[];rw[<-bO];have i:(∀c∈a,0<=c/\c<(d.length:Z))↔∀b,b<a.length->∀e:b<a.length,0<=a[b]/\a[b]<(d.length:Z):=
  ⟨λe b _ f=>e _ (cF f),λe c k=>by grind [ak0]⟩
 refine bE (P:=λg=>br (g.1>=0)=br (¬∀c∈a,0<=c/\c<(d.length:Z))) ?_ (λg h=>bu.2 (by rw[h]));refine bE (JB a.length (λb=>∀e:b<a.length,0<=a[b]/\a[b]<(d.length:Z)) ?_ ?_) ?_
 ·intro b f;simp(disch:=omega) only[c3,aw,gg (bi f),aE,ls];unfold HX;simp only[aE,ags];grind
 ·grind
 grind [bu,aA,aF]
theorem Ur (i:∀m∈t,m.length<4611686018427387904) (a:aj6) (k:t.length<=200->fu t->t.length<=12) (l:a.length<4611686018427387904):C6 ((t,()),a,())=Y (mU t a,()):=by
 classical
 unfold C6 mU;simp only[GL t i,aE,fL];by_cases e:i7 t=0
 ·obtain⟨j,h⟩:=uV.1 e;have n:=k j h;rw[aF e];simp only[ir,bP,e,ne_eq,alZ,if_false];by_cases f:a.length=t.length
  ·rw[aF (aa:(((a.length:X):Z)=((t.length:X):Z)))];simp only[ir,bP,f,alZ,if_false];rw[ada t a l];simp only[aE];by_cases b:∀g∈a,0<=g/\g<(t.length:Z)
   ·rw[aA (akw b)];simp only[akB,bG];rw[afX a aa];simp only[aE,c3];by_cases c:a.Nodup
    ·rw[au (akw c),aw ⟨f,b,c⟩]
    rw[aw c,au (λd=>c d.2.2)]
   rw[aF b,au (λd=>b d.2.1)];rfl
  grind
 grind
end
section
open Go
def qE (c:et) (a:aj6) (b d:X):bA:=br (a.getD d 0∈c.getD (a.getD b 0).toNat [])
theorem OZ (k:fu t) (i:∀d∈c,0<=d/\d<(t.length:Z)) (l:a<c.length) (m:b<c.length):qE t c a b=qE t c b a:=by have n:=i _ (cF l);have o:=i _ (cF m);have u:∀d e:Z,0<=d/\d<(t.length:Z)->0<=e/\e<(t.length:Z)->e∈t.getD d.toNat []->d∈t.getD e.toNat []:=λd e r s h=>(by obtain⟨f,rfl⟩:∃f:X,d=(f:Z):=⟨d.toNat,aa⟩;obtain⟨g,rfl⟩:∃g:X,e=(g:Z):=⟨e.toNat,aa⟩;simp only[fU] at h|-;have j:f<t.length:=aa;have q:g<t.length:=aa;rw[xY j] at h;obtain⟨_,p⟩:=aol k f g ⟨j,h⟩;grind);unfold qE;grind
theorem XT (f:fu t) (g:∀e∈c,0<=e/\e<(t.length:Z)):ke c.length (λa b=>br (a≠b)&&qE t c a b)=jZ (kf t c):=by unfold ke jZ;rw[x1];refine iJ λi d=>?_;have d:=gD.1 d;unfold cZ mQ;refine b6 _ (p0 λj h=>?_);grind [Bool.or_self,OZ,Hy,qE]
theorem Yj (r:fu t) (s:∀c∈t,c.length<4611686018427387904) (x:∀o∈c,0<=o/\o<(t.length:Z)) (G:c.length<=400):C9 ((t,()),c,())=Y ((jZ (kf t c),()),()):=by
 generalize m:c.length=d at*
 let h:X->X->X->X->bA:=λa b e f=>br (e≠f)&&(qE t c e f&&((br (e<a)&&br (f<a))||((br (e=a)&&br (f<b))||(br (f=a)&&br (e<b)))))
 unfold C9;simp only[m];rw[L2 d aa];simp only[aE];refine ai (y:=(([],()),im d (h d 0),())) (A7 d (λa=>(([],()),im d (h a 0),())) 0 bn ?_ (eU _) ?_ ?_) ?_
 ·grind
 ·intro a _ w;have l:a<c.length:=aa;have u:ar c (a:Z)=Y c[a]:=gg (bi l);have k:=x _ (cF l);obtain⟨g,n⟩:∃g:X,c[a]=(g:Z):=⟨c[a].toNat,aa⟩;have i:g<t.length:=aa;simp(disch:=omega) only[c3,aw,u,aE,vW,m,vI,ji,n,m5];have z:(c.take a).length=a:=(by grind);refine ai (y:=(([],()),im d (h a a),())) (A7 a (λb=>(([],()),im d (h a b),())) 0 bn rfl (eU _) ?_ ?_) ?_
  ·intro b _ E;have F:b<c.length:=aa;have v:ar (c.take a) (b:Z)=Y c[b]:=gg (by grind);simp(disch:=omega) only[z,c3,aw,v,aE,ls];rw[Je t g c[b] i (s _ (cF i)) ((Hf t).1 r g i).1];simp only[aE,c3];have p:qE t c a b=br (c[b]∈t[g]):=by
    grind [xY,akE,qE]
   have q:qE t c b a=br (c[b]∈t[g]):=(by grind [OZ]);by_cases j:c[b]∈t[g]
   ·rw[aw j,LW w aa];simp only[aE];refine b6 (λA=>Y (Sum.inl (((b+1:X):Z),([],()),A,()))) (PI λe f _ _=>?_);rw[aF j] at p q;simp only[h];rw[wK];simp only[jx,bk,akt];constructor
    ·rintro(⟨k,C,D⟩|⟨k,⟨rfl,rfl⟩|⟨rfl,rfl⟩⟩)
     ·grind
     ·grind
     grind
    grind
   grind
  ·grind
  simp(disch:=omega) only[ls];grind
 ·grind
 rw[LS aa];simp only[aE];have B:ke d (h d 0)=ke d (λe f=>br (e≠f)&&qE t c e f):=(by refine db λg n=>b6 cZ (p0 λI H=>?_);grind);grind [XT]
theorem Uv (c:∀j∈t,j.length<4611686018427387904) (a:aj6) (g:t.length<=200->fu t->t.length<=12) (h:a.length<4611686018427387904):zT ((t,()),a,())=Y (if mU t a=0 then((jZ (kf t a),()),0,()) else(([],()),mU t a,())):=by
 classical
 unfold zT;simp only[Ur c a g h,aE,fL];by_cases b:mU t a=0
 ·rw[aF b,aw b];simp only[ir,bP];have e:i7 t=0:=by
   by_cases i:i7 t=0
   ·exact i
   simp_all [aw,mU,absurd]
  obtain⟨k,f⟩:=uV.1 e;have d:fV a t.length:=(by unfold mU at b;grind);rw[Yj f c d.2.1 (by have:=d.1;omega)];rfl
 grind
end
def j2 (E:bm cY) (b c:X):bA:=E.any λa=>br (a.1≠a.2.1)&&((br ((b:Z)=a.1)&&br ((c:Z)=a.2.1))||(br ((b:Z)=a.2.1)&&br ((c:Z)=a.1)))
def lQ (E:bm cY) (b c:X):bA:=E.any λa=>br ((b:Z)=a.1)&&br ((c:Z)=a.2.1)
theorem Hl {b:j->bA} {E:bm j} (c:a<E.length):(E.take (a+1)).any b=((E.take a).any b||b E[a]):=by grind [akd,bX]
theorem Zm (a:X) (b:X->X->bA) (e:∀c d,b c d=bp):(bI a (bI a bp))=im a b:=by grind [db,iQ,im]
theorem Vw (c:b<a) (d:g<a):hF (im a h) b g=h b g:=by grind [gR,az,hF,im]
theorem Ox (d:X) (b:X->X->bA):jZ (im d b)=ke d λa c=>a !=c&&(b a c||b c a):=by unfold jZ;rw[Bb];refine db λa e=>?_;grind [Vw,List.filter_congr,mQ,cZ]
theorem O4 {E:bm cY} (a b:X):(a !=b&&(lQ E a b||lQ E b a))=j2 E a b:=by
 induction E with
 |nil=>simp[lQ,j2]
 |cons h E g=>
  unfold lQ j2 at*;simp only[List.any_cons];rw[<-g,wK];simp only[bk,jx,bne_iff_ne,akt];constructor
  ·rintro⟨f,(⟨d,e⟩|c)|(⟨d,e⟩|c)⟩
   ·omega
   ·grind
   ·omega
   grind
  rintro(⟨f,⟨d,e⟩|⟨d,e⟩⟩|⟨f,c|c⟩)
  ·omega
  ·omega
  ·grind
  grind
theorem Ua (f:iZ a a o c S) (m:hH a a o c S=0):zR (((a:Z),(a:Z),o,c,S,()),())=Y ((ke a (j2 (eG o c S a)),()),0,()):=by
 have k:=(kM.1 m).1;have t:=tj k;have x:(eG o c S a).length<=10000:=(by rw[AL k a (cd _)];have:=k.qG a (cd _);have:=f.hi;omega);unfold zR;refine ai f.check ?_;dsimp only;rw[m,fL,aF bn,fL,aF bn];have w:=f.hc;refine ai (L2 a aa) (ai (T4 f m) ?_);dsimp only;generalize eG o c S a=E at*;refine bO.1 ?_;refine bE (P:=λu=>u=(([],()),im a (j2 E),())) ?_ ?_
 ·refine bQ E.length (λb v=>v=((b:Z),([],()),im a (j2 (E.take b)),E,())) rfl ?_ ?_
  ·rintro b _ l rfl;dsimp only;rw[aZ (aF (show(b:Z)<al E by grind)),je l,bc aa];have s:=t E[b] (b3 l);obtain⟨d,p⟩:=cy s.1;obtain⟨e,q⟩:=cy s.2.2.1;have r:=LW (n:=a) (B:=j2 (E.take b)) (i:=d) (j:=e) aa aa;rw[<-p,<-q] at r;refine bz r (bu.2 ?_);dsimp only;have:im a (λg h=>j2 (E.take b) g h||(br (d≠e)&&((br (g=d)&&br (h=e))||(br (g=e)&&br (h=d)))))=im a (j2 (E.take (b+1))):=by
    refine PI λy z _ _=>?_;unfold j2;rw[Hl l,p,q];grind
   grind
  rintro _ rfl;dsimp only;rw[aW (aA (show¬((E.length:Z)<al E) by grind)),cl (cd _)];grind [bu]
 grind [bz,LS,bu]
theorem adV (f:iZ a a n c o) (j:hH a a n c o=0):vo (((a:Z),(a:Z),n,c,o,()),())=Y ((ke a (j2 (eG n c o a)),()),0,()):=by
 have h:=(kM.1 j).1;have q:=tj h;have y:(eG n c o a).length<=10000:=(by rw[AL h a (cd _)];have:=h.qG a (cd _);have:=f.hi;omega);unfold vo;refine ai f.yB ?_;dsimp only;rw[j,fL,aF bn,fL,aF bn];have x:=f.hc;refine ai (N1 a aa) (ai (RK f j) ?_);dsimp only;generalize eG n c o a=E at*;refine bO.1 ?_;refine bE (P:=λv=>v=(([],()),im a (lQ E),())) ?_ ?_
 ·refine bQ E.length (λd w=>w=((d:Z),([],()),im a (lQ (E.take d)),())) ?_ ?_ ?_
  ·rw[Zm a (lQ (E.take 0)) λb g=>rfl];rfl
  ·rintro d _ i rfl;dsimp only;rw[aZ (aF (show(d:Z)<al E by grind)),bc aa];have p:=q E[d] (b3 i);obtain⟨e,r⟩:=cy p.1;obtain⟨k,s⟩:=cy p.2.2.1;have m:e<a:=aa;have t:k<a:=aa;refine bz (eR i) ?_;rw[r];refine bz (fc (by grind [Bb])) (bz (eR i) ?_);rw[s];unfold im;rw[gO m,bK];refine bz (fc (by grind [cN])) ?_;rw[gO m,gO t,hx,alX,bK,hx];refine bu.2 ?_;have:az a (eB (λb=>az a (lQ (E.take d) b)) e (az a (eB (lQ (E.take d) e) k bq)))=az a λb=>az a (lQ (E.take (d+1)) b):=by
    refine db λb z=>?_;by_cases l:b=e
    ·subst l;grind [hb,aA,gG,Hl,db,lQ]
    rw[hb _ _ l];grind [Hl,aA,db,lQ]
   grind
  rintro _ rfl;dsimp only;rw[aW (aA (show¬((E.length:Z)<al E) by grind)),cl (cd _)];grind [bu]
 rintro _ rfl;dsimp only;refine bz (LQ _ (λA u=>?_) (by grind [Bb])) (bu.2 ?_)
 ·rw[Bb];unfold im az at u;grind
 dsimp only;rw[Ox];have:(λb g=>b !=g&&(lQ E b g||lQ E g b))=j2 E:=(by grind [O4]);grind
section
open Go
def n0 (b:aj6) (a:X):X:=(b.getD a 0).toNat
theorem fV.get {n:X} (b:fV c n) (d:a<n):ar c (a:Z)=Y ((n0 c a:X):Z)/\n0 c a<n:=by have e:a<c.length:=(by rw[b.1];exact d);have f:=b.2.1 _ (cF e);grind [gg,bX,xY,n0]
theorem fV.inj (d:fV c b) {j:X} (h:j<b) (i:a<b) (e:n0 c j=n0 c a):j=a:=by have f:j<c.length:=(by rw[d.1];exact h);have g:a<c.length:=(by rw[d.1];exact i);have k:=d.2.1 _ (cF f);have l:=d.2.1 _ (cF g);unfold n0 at e;rw[xY f,xY g] at e;exact(p3 d.2.2).1 aa
end
section
open Go
theorem Z1:∀{n:X} {a:aj5},a.Nodup->(∀d∈a,d<n)->a.length<=n:=by
 intro n
 induction n with
 |zero=>intro a _ b;cases a with
  |nil=>grind
  |cons e a=>grind [alY]
 |succ n g=>
  intro a c b;have f:(a.erase n).Nodup:=c.erase n;grind
section
variable {A:et} (B:fu A)
include B
end
end
section
open Go
def EB (A:et) (a:Z):X:=(A.getD a.toNat []).length
section
variable {A:et} (B:fu A) (C:A.length<=200)
include B C
end
end
section
open Go
def Fa (k:Z->Z->aj4) (l:aj6) (f j:Z):bv ee:=
 (loop (σ:=dX) (ρ:=ee) (λ(d,g,_)=>
  bif br (d<j) then
 (loop (σ:=dX) (ρ:=ee) (λ(a,c,_)=>
 bB (α:=ee⊕dF) (bif br (a>f)==bq then(ba c.length a).bind λv=>
 (a1 c v λo=>Y o).bind λz=>
 (ba c.length (bL.wrap (a-(1:Z)))).bind λs=>
 (a1 c s λp=>Y p).bind λA=>
 (k z A).bind λ(y,_)=>
  bif br (y<(0:Z)) then
 Y (.inl (c,())) else
 Y (.inr (.inr (c,()))) else Y (.inr (.inr (c,())))) λw=>match w with
 |.inl (b,_)=>(
 (ba b.length (bL.wrap (a-(1:Z)))).bind λt=>
 (a1 b t λq=>Y q).bind λB=>
 (ba b.length a).bind λu=>
 (a1 b u λr=>Y r).bind λC=>
 (ba b.length a).bind λh=>
 (a1 b h λ_=>Y (b.set h B)).bind λe=>
 (ba e.length (bL.wrap (a-(1:Z)))).bind λi=>
 (a1 e i λ_=>Y (e.set i C)).bind λD=>
 Y (.inl (bL.wrap (a-(1:Z)),D,())))
 |.inr x=>Y x) (d,g,())).bind λ(m,_)=>
 Y (.inl (bL.wrap (d+(1:Z)),m,())) else
 Y (.inr (g,()))) (bL.wrap (f+(1:Z)),l,())).bind λ(n,_)=>
 Y (n,())
def Yn {cmp:Z->Z->aj4} {h:Z->Z->bA} (m:o8 h) (c:aj6) (A:∀r s,r∈c->s∈c->∃d,cmp r s=Y (d,())/\(d<0↔h r s=bq)) (I:c.length<=1000):ae (Fa cmp c 0 (c.length:Z)) (λd=>∃a,d.1=az c.length a/\o9 h a c.length/\d.1.Perm c):=by
 unfold Fa;generalize o:c.length=e at*;have z:bL.wrap (0+1)=((1:X):Z):=(by rw[cu]<;>omega);rw[z];rcases rk e with G|C
 ·subst G;refine bE (P:=λd=>d.1=c) ?_ ?_
  ·refine akn (λj=>j=(((1:X):Z),c,())) (λ_=>0) rfl ?_;rintro _ rfl;simp only[c3];rw[au aa];exact bu.2 bn
  rintro⟨d,_⟩ rfl;refine bu.2 ⟨λ_=>0,?_,λp q t u=>by omega,amD _⟩;show d=[];exact re o
 refine bE (P:=λd=>∃a,d.1=az e a/\o9 h a e/\d.1.Perm c) ?_ (λd E=>bu.2 E);refine ae.for e (λg H=>∃a,H=(az e a,())/\o9 h a g/\(az e a).Perm c) rfl ⟨λg=>c[g]?.getD default,?_,λp q t u=>by omega,?_⟩ C ?_ ?_
 ·rw[<-o,<-EN]
 ·rw[<-o,<-EN]
 ·rintro g _ t u ⟨a,rfl,i,f⟩;simp only[c3];rw[aw aa];refine bE (P:=λd=>∃a,d=(az e a,())/\o9 h a (g+1)/\(az e a).Perm c) ?_ ?_
  ·refine akn (λj=>∃(b:X) (a:X->Z),j=((b:Z),az e a,())/\b<=g/\us h a g b/\(az e a).Perm c) (λj=>j.1.toNat) ⟨g,a,bn,bd _,λp q D K J=>i p q D aa,f⟩ ?_;rintro _ ⟨b,a,rfl,n,l,f⟩;simp only[HR];by_cases v:0<b
   ·have B:b-1<e:=aa;have w:b<e:=aa;obtain⟨d,F,x⟩:=A (a b) (a (b-1)) (f.mem_iff.1 (PK.2 ⟨b,w,bn⟩)) (f.mem_iff.1 (PK.2 ⟨b-1,B,bn⟩));simp(disch:=omega) only[aw,cN,B4,fc,gO,aE,F,c3];by_cases k:h (a b) (a (b-1))=bq
    ·rw[aw (x.2 k)];simp(disch:=omega) only[aE,cN,B4,fc,gO,hx];refine bu.2 ⟨⟨b-1,swp a b,bn,aa,l.swp m v n k,(S7 v w).trans f⟩,?_⟩;show((b-1:X):Z).toNat<((b:X):Z).toNat;omega
    rw[au (λy=>k (x.1 y))];exact bu.2 ⟨a,bn,l.done m n (.inr (by simpa using k)),f⟩
   rw[au aa];exact bu.2 ⟨a,bn,l.done m n (.inl aa),f⟩
  rintro _ ⟨a,rfl,i,f⟩;simp(disch:=omega) only[ls];exact bu.2 ⟨bn,a,bn,i,f⟩
 rintro _ ⟨a,rfl,i,f⟩;simp only[c3];rw[au aa];exact bu.2 ⟨a,bn,i,f⟩
def Po (a:et) (b c:Z):Prop:=EB a b<EB a c\/(EB a b=EB a c/\b<c)
instance(a:et) (b c:Z):akI (Po a b c):=by unfold Po;exact inferInstance
end
section
open Go
def hS (o:aj6) (a:X):X:=o.idxOf (a:Z)
section
variable {o:aj6} {n:X} (A:fV o n)
include A
theorem fV.mem (j:a<n):(a:Z)∈o:=by
 apply Classical.byContradiction;intro d;obtain⟨g,h,i⟩:=A;have e:o=cZ (o.map akz):=by
  unfold cZ;rw[p6]
  conv=>lhs;rw[<-List.map_id o]
  grind [aks]
 have b:(o.map akz).Nodup:=(by grind [cA,b3]);have c:a∉o.map akz:=λf=>d (by grind);have:=Z1 (n:=n) (jS.2 ⟨c,b⟩) (λl k=>by
  grind)
 grind
theorem fV.pos (d:a<n):hS o a<n/\n0 o (hS o a)=a:=by have b:=A.mem d;have c:hS o a<o.length:=Cj.2 b;refine⟨by rw[<-A.1];exact c,?_⟩;grind [xY,hS,n0]
theorem fV.Ru (b:a<n):hS o (n0 o a)=a:=by have c:=(A.get b).2;obtain⟨d,e⟩:=A.pos c;exact A.inj d b e
end
section
variable {B:et} (C:fu B) {o:aj6} (A:fV o B.length)
include C A
end
end
def ob (E:bm cY) (b c:Z):Z:=match E.find? λa=>br (a.1=b)&&br (a.2.1=c) with
 |some a=>a.2.2.1
 |none=>0
theorem W0 {E:bm cY} (i:E.Pairwise hy) {a:cY} (c:R∈E) (d:a∈E) (g:R.1=a.1) (h:R.2.1=a.2.1):R=a:=by
 obtain⟨e,j,rfl⟩:=g1.1 c;obtain⟨f,k,rfl⟩:=g1.1 d;rcases sG e f with b|b|b
 ·grind [cA,hy]
 ·grind
 grind [cA,hy]
theorem Tz {E:bm cY} (e:E.Pairwise hy) (f:R∈E):ob E R.1 R.2.1=R.2.2.1:=by
 unfold ob;cases b:E.find? λa=>br (a.1=R.1)&&br (a.2.1=R.2.1) with
 |none=>
  grind
 |some a=>
  have c:=List.find?_some b;have d:=GX b;simp only[bk,akt] at c;grind [W0]
theorem agn {E:bm cY} (b:∀a∈E,¬(a.1=d/\a.2.1=l)):ob E d l=0:=by grind [List.find?_eq_none,ob]
theorem TA {E:bm cY} (d:(E++[R]).Pairwise hy) (b c:Z):ob (E++[R]) b c=if R.1=b/\R.2.1=c then R.2.2.1 else ob E b c:=by
 by_cases a:R.1=b/\R.2.1=c
 ·rw[aw a,<-a.1,<-a.2,Tz d ac]
 rw[au a];unfold ob;grind
theorem agm {E:bm cY} (d:∀c∈E,cE c.2.2.1≠2047) (a b:Z):cE (ob E a b)≠2047:=by grind [apt,decide,cE,ob]
theorem PJ (f:gx g b c n o) (i:a<b):R∈eG c n o b/\R.2.1=(a:Z)↔∃d:X,c.getD a 0<=(d:Z)/\(d:Z)<c.getD (a+1) 0/\R=(n.getD d 0,(a:Z),o.getD d 0,()):=by
 have r:=f.pos a aa;have s:=f.pos (a+1) aa;constructor
 ·rintro⟨e,j⟩;obtain⟨h,m,e⟩:=Bd.1 e;obtain⟨t,q,rfl⟩:=vQ.1 e;have p:h=a:=(by grind);grind
 rintro⟨d,k,l,rfl⟩;refine⟨Bd.2 ⟨a,i,vQ.2 ⟨d-(c.getD a 0).toNat,aa,?_⟩⟩,bn⟩;grind
theorem adR (k:iZ g b n c o) (w:hH g b n c o=0) (i:Z) (p:a<b):vk (((g:Z),(b:Z),n,c,o,()),i,(a:Z),())=Y (ob (eG n c o b) i (a:Z),()):=by
 have f:=(kM.1 w).1;have A:=f.pos a aa;have B:=f.pos (a+1) aa;have I:=f.qG (a+1) aa;have J:=f.val;have G:=f.mono a p;have F:=f.len;have E:=k.hi;have u:=tk f b (bd _);have D:=k.hc;unfold vk;refine ai (y:=.inl ()) ?_ ?_
 ·refine ai k.yB ?_;grind
 dsimp only;rw[gu (aa:a<n.length),bK];refine bO.1 ?_;obtain⟨e,x⟩:=cy A;obtain⟨h,v⟩:=cy B;have t:ar n (aM (a:Z))=Y (h:Z):=(by rw[bc aa,gu aa,v]);rw[t,x];refine bE (P:=λl=>(l=.inl ()/\∀d:X,e<=d->d<h->c.getD d 0≠i)\/∃d:X,e<=d/\d<h/\c.getD d 0=i/\l=.inr (o.getD d 0,())) ?_ ?_
 ·refine bQ (h-e) (λj C=>C=(((e+j:X):Z),())/\∀d:X,e<=d->d<e+j->c.getD d 0≠i) ⟨bn,λd r m=>absurd m aa⟩ ?_ ?_
  ·rintro j _ H ⟨rfl,q⟩;dsimp only;rw[bK,aZ (aF (aa:((e+j:X):Z)<(h:Z)))];refine bz (gu aa) ?_;by_cases s:c.getD (e+j) 0=i
   ·rw[aZ (by grind)];refine bz (gu aa) (bu.2 ?_);grind
   rw[aW (by grind),bc aa];grind [cn,bu]
  rintro _ ⟨rfl,q⟩;dsimp only;rw[bK,aW (aA (aa:¬(((e+(h-e):X):Z)<(h:Z))))];grind [bu]
 rintro l (⟨rfl,q⟩|⟨d,r,m,s,rfl⟩)
 ·grind [PJ,agn,bu]
 refine bu.2 ?_;have z:=((PJ f p).2 ⟨d,aa,aa,bn⟩).1;have:=Tz u z;grind
theorem adZ (y:a<=10000) (z:c.length<=1000000):Er (c,(a:Z),())=Y (open Classical in decide (fV c a),()):=by
 classical
 unfold Er;dsimp only;by_cases n:c.length=a
 ·rw[aW (by grind)];refine ai (h0 aa) ?_;refine bO.1 ?_;refine bE (P:=λp=>(p=.inl ()/\fV c a)\/(p=.inr (bp,())/\¬fV c a)) ?_ ?_
  ·refine bQ a (λb t=>t=((b:Z),az a (λd=>br ((d:Z)∈c.take b)),())/\(∀e∈c.take b,0<=e/\e<(a:Z))/\(c.take b).Nodup) ?_ ?_ ?_
   ·grind [iQ]
   ·rintro b _ x ⟨rfl,h,i⟩;dsimp only;rw[aZ (aF (aa:(b:Z)<(a:Z))),eR (aa:b<c.length)];have o:c[b]'(by omega)∈c:=b3 _
    have r:c.take (b+1)=c.take b++[c[b]'(by omega)]:=by simp_all
    have j:∀e,e∈c.take (b+1)↔e∈c.take b\/e=c[b]'(by omega):=λe=>by rw[r,hn,gp]
    have q:(c.take (b+1)).Sublist c:=amC _ _;generalize B:c[b]'(by omega)=d at*
    simp only[aE];by_cases v:d<0
    ·rw[aW (show(br (d<0)==bp)=bp by grind)];refine bu.2 (.inr ⟨bn,λg=>?_⟩);have:=g.2.1 d o;omega
    rw[aZ (show(br (d<0)==bp)=bq by grind)];by_cases w:d>=(a:Z)
    ·rw[aW (show(br (d>=(a:Z))==bp)=bp by grind)];refine bu.2 (.inr ⟨bn,λg=>?_⟩);have:=g.2.1 d o;omega
    rw[aZ (show(br (d>=(a:Z))==bp)=bq by grind)];obtain⟨k,rfl⟩:=gh (aa:0<=d);rw[je (by grind [cN]),lJ];by_cases l:(k:Z)∈c.take b
    ·rw[aZ (aF l)];refine bu.2 (.inr ⟨bn,λg=>?_⟩);have:=aom q g.2.2;grind
    rw[aW (aA l)];simp only[aE];rw[lr (by grind [cN]),hx];refine bu.2 ⟨?_,?_,?_⟩
    ·rw[bc aa];have:az a (eB (λd=>br ((d:Z)∈c.take b)) k bq)=az a (λd=>br ((d:Z)∈c.take (b+1))):=by
      refine db λu A=>?_;by_cases m:u=k
      ·grind [gG,aF]
      rw[hb _ _ m];refine aj8.2 ⟨λf=>(j _).2 (.inl f),λf=>((j _).1 f).resolve_right λf=>m aa⟩
     grind
    ·intro e s;rcases(j e).1 s with f|f
     ·grind
     omega
    grind
   rintro _ ⟨rfl,h,i⟩;dsimp only;rw[aW (aA (aa:¬((a:Z)<(a:Z))))];rw[cl aa] at h i;exact bu.2 (.inl ⟨bn,n,h,i⟩)
  grind [bu,aF,aA]
 rw[aZ (by grind),aA (λf=>n f.1)]
theorem adB (e:a<c.length) (g:c[a]=(b:Z)) (f:(b:Z)∉c.take a):hS c b=a:=by unfold hS;have d:c=c.take a++(c[a]::c.drop (a+1)):=(by rw[List.getElem_cons_drop,jU]);grind
theorem Rq (B:a<=10000) (C:c.length<=1000000):Ez (c,(a:Z),())=Y (open Classical in if fV c a then(az a (λb=>(hS c b:Z)),bq,()) else([],bp,())):=by
 classical
 unfold Ez;dsimp only;by_cases p:c.length=a
 ·rw[aW (by grind)];refine ai (h0 aa) (ai (h0 aa) ?_);refine bO.1 ?_;refine bE (P:=λo=>(o=.inl (az a (λb=>(hS c b:Z)),())/\fV c a)\/(o=.inr ([],bp,())/\¬fV c a)) ?_ ?_
  ·refine bQ a (λd x=>x=((d:Z),az a (λb=>if(b:Z)∈c.take d then(hS c b:Z) else 0),az a (λb=>br ((b:Z)∈c.take d)),())/\(∀g∈c.take d,0<=g/\g<(a:Z))/\(c.take d).Nodup) ?_ ?_ ?_
   ·grind [iQ]
   ·rintro d _ A ⟨rfl,m,n⟩;dsimp only;rw[aZ (aF (show(d:Z)<al c by grind)),eR (aa:d<c.length)];have q:c[d]'(by omega)∈c:=b3 _
    have u:c.take (d+1)=c.take d++[c[d]'(by omega)]:=by simp_all
    have j:∀g,g∈c.take (d+1)↔g∈c.take d\/g=c[d]'(by omega):=λg=>by rw[u,hn,gp]
    have t:(c.take (d+1)).Sublist c:=amC _ _;have s:∀f:X,c[d]'(by omega)=(f:Z)->(f:Z)∉c.take d->hS c f=d:=λf=>adB aa
    generalize r:c[d]'(by omega)=b at*
    simp only[aE];by_cases y:b<0
    ·rw[aW (show(br (b<0)==bp)=bp by grind)];refine bu.2 (.inr ⟨bn,λh=>?_⟩);have:=h.2.1 b q;omega
    rw[aZ (show(br (b<0)==bp)=bq by grind)];by_cases z:b>=(a:Z)
    ·rw[aW (show(br (b>=(a:Z))==bp)=bp by grind)];refine bu.2 (.inr ⟨bn,λh=>?_⟩);have:=h.2.1 b q;omega
    rw[aZ (show(br (b>=(a:Z))==bp)=bq by grind)];obtain⟨f,rfl⟩:=gh (aa:0<=b);rw[je (by grind [cN]),lJ];by_cases l:(f:Z)∈c.take d
    ·simp only[aE];rw[aZ (aF l)];refine bu.2 (.inr ⟨bn,λh=>?_⟩);have:=aom t h.2.2;grind
    simp only[aE];rw[aW (aA l)];simp only[aE];rw[lr (by grind [cN]),hx,lr (by grind [cN]),hx];refine bu.2 ⟨?_,?_,?_⟩
    ·rw[bc aa];have:az a (eB (λb=>br ((b:Z)∈c.take d)) f bq)=az a (λb=>br ((b:Z)∈c.take (d+1))):=by
      refine db λk v=>?_;by_cases i:k=f
      ·grind [gG,aF]
      rw[hb _ _ i];refine aj8.2 ⟨λe=>(j _).2 (.inl e),λe=>((j _).1 e).resolve_right λe=>i aa⟩
     rw[this];have:az a (eB (λb=>if(b:Z)∈c.take d then(hS c b:Z) else 0) f (d:Z))=az a (λb=>if(b:Z)∈c.take (d+1) then(hS c b:Z) else 0):=by
      refine db λk v=>?_;by_cases i:k=f
      ·subst i;rw[gG,aw ((j _).2 (.inr bn)),s k bn l]
      rw[hb _ _ i];have:(k:Z)∈c.take (d+1)↔(k:Z)∈c.take d:=⟨λe=>((j _).1 e).resolve_right λe=>i aa,λe=>(j _).2 (.inl e)⟩;simp_all
     grind
    ·intro g w;rcases(j g).1 w with e|e
     ·grind
     omega
    grind [anI,akc]
   rintro _ ⟨rfl,m,n⟩;dsimp only;rw[aW (aA (show¬((a:Z)<al c) by grind))];rw[cl aa] at m n|-;have h:fV c a:=⟨p,m,n⟩;refine bu.2 (.inl ⟨?_,h⟩);have:az a (λb=>if(b:Z)∈c then(hS c b:Z) else 0)=az a (λb=>(hS c b:Z)):=db λb r=>b8 (h.mem r);grind
  rintro o (⟨rfl,e⟩|⟨rfl,e⟩)
  ·simp_all [aw,bu]
  simp_all [bu,au]
 rw[aZ (by grind),au (λe=>p e.1)]
def oW (a b:X) (d c e f:aj6):Z:=open Classical in if hH a b d c e≠0 then hH a b d c e else if a≠b then 5 else if fV f a then 0 else 90
theorem K2 (d:oW a b o c S n=0):hH a b o c S=0/\a=b/\fV n a:=by unfold oW at d;grind
theorem Um (e:iZ b a n c o) (h:S.length<=1000000) (d:oW b a n c o S≠0):td (((b:Z),(a:Z),n,c,o,()),S,())=Y (bo,oW b a n c o S,()):=by
 classical
 unfold td;unfold oW at d|-;refine ai e.check ?_;dsimp only;have i:=e.hr;by_cases f:hH b a n c o=0
 ·rw[au (akw f)] at d|-;rw[aW (by grind)];by_cases g:b=a
  ·subst g;rw[au (akw bn)] at d|-;rw[aW (by grind)];refine ai (Rq aa h) ?_;grind
  grind
 grind
def lK (a:X) (E:bm cY) (b:aj6):et:=jZ (kf (ke a (j2 E)) b)
theorem IV (b:X) (c:X->X->bA):∀a∈ke b c,a.length<=b:=by intro a d;unfold ke az at d;grind [aky,jI]
theorem AU (a:X) (b:X->X->bA):(ke a b).length=a:=cN _ _
theorem XU (c:X) (E:bm cY):ke c (j2 E)=jZ (im c (lQ E)):=by rw[Ox];have:(λa b=>a !=b&&(lQ E a b||lQ E b a))=j2 E:=(by grind [O4]);grind
theorem Rn (e:a<=12) {E:bm cY} (b:fV c a):mU (ke a (j2 E)) c=0:=by unfold mU;have d:i7 (ke a (j2 E))=0:=uV.2 ⟨by grind [AU],by grind [IQ,XU]⟩;rw[au (akw d),au (akw (by rw[AU];exact b.1)),AU,aw b]
theorem Uw (e:a<=12) {E:bm cY} (b:fV c a):zT ((ke a (j2 E),()),c,())=Y ((lK a E c,()),0,()):=by rw[Uv (λf d=>by have:=IV a _ f d;omega) c (λ_ _=>by grind [AU]) (by rw[b.1];omega),aw (Rn e b)];rfl
def ad2 (d:a<=12) {E:bm cY} (e:fV c a):tc ((ke a (j2 E),()),c,())=Y ((lK a E c,()),0,()):=by rw[KO (λf b=>by have:=IV a _ f b;omega) c,aw (Rn d e)];rfl
def xZ {E:bm cY} (b:fV c a):(lK a E c).length=a:=by unfold lK;rw[XI,x1,b.1]
def AW (a:X) (E:bm cY) (b:aj6):fu (lK a E b):=IQ _
def X1 (f:a<=12) {E:bm cY} (e:fV c a):∀b∈lK a E c,b.length<4611686018427387904:=λb d=>by have:=XJ _ b d;rw[x1,e.1] at this;omega
def Ud (f:m3 a n c o) (r:iZ a a n c o) (h:hH a a n c o=0):zR (rX a a (g6 (eG n c o a)),())=Y ((ke a (j2 (g6 (eG n c o a))),()),0,()):=by have b:=(kM.1 h).1;have k:=(kM.1 h).2;have j:=tk b a (bd _);have l:=tj b;have t:=f.el;have u:=f.Bh;have m:=vy b r.hw;have p:=vy b (IF k);have i:=Ba j;have g:=A9 l;have s:=SP (rows:=a) (eL:=a) (E:=g6 (eG n c o a)) aa aa aa (λe d=>m e (hU.1 d).1);have q:=Nb i g (λe d=>p e (hU.1 d).1);have:=Ua s q;rw[N8 i g] at this;exact this
def kt:fa:=(bp,((bp,([],())),((0:Z),())))
def Ir:kt=aB (Y 0):=by rw[hu];rfl
def Qn:aX 0=Y 0:=by decide
theorem PF {j:Type}:∀(i:bm (Z×j)) (c:Z) (d:j) (b:Z),gk (kS i c d) b=if b=c then Y d else gk i b
 |[],c,d,b=>by
  show(if c=b then Y d else bo)=_;by_cases e:b=c
  ·rw[aw e,aw e.symm]
  rw[au e,au (λf=>e f.symm)];rfl
 |(a,u)::r,c,d,b=>by
  unfold kS;by_cases g:c<a
  ·rw[aw g];show(if c=b then Y d else gk ((a,u)::r) b)=_;grind
  rw[au g];by_cases h:c=a
  ·rw[aw h];show(if c=b then Y d else gk r b)=_;by_cases e:b=c
   ·rw[aw e,aw e.symm]
   rw[au e,au (λf=>e f.symm)];show _=(if a=b then Y u else gk r b);grind
  rw[au h];show(if a=b then Y u else gk (kS r c d) b)=_;rw[PF r c d b];show _=if b=c then Y d else(if a=b then Y u else gk r b)
  grind
abbrev ov:=bv (bm (Z×fa)×X)
variable{N:bm ov}
def py (a b:Z):Z:=if b>a then b else a
def pz (a b:Z):Z:=if b<a then b else a
def nS (E:bm cY) (a:aj6) (b c:X):ez:=aX (ob E (py (a.getD b 0) (a.getD c 0)) (pz (a.getD b 0) (a.getD c 0)))
theorem WZ (E:bm cY) (a:aj6) (b c:X):nS E a b c=nS E a c b:=by grind [py,pz,nS]
structure lC (n:X) (o:aj6) (D:bm cY) (M:bm ov):Prop where
 len:M.length=n
 get:∀p,p<n->∃l c,M[p]?=Y (Y (l,c))/\∀q,q<n->p<=q->(gk l (q:Z)).getD kt=aB (nS D o p q)
def lC.nil:lC a c [] (az a λ_=>Y ([],0)) where
 len:=cN _ _
 get:=λd b=>⟨[],0,gR b,λe _ _=>by
  show kt=aB (aX 0);rw[Qn,Ir]⟩
theorem Ro (d:fV c b) (e:a<b):c.getD a 0=(n0 c a:Z)/\n0 c a<b:=by have f:a<c.length:=(by rw[d.1];exact e);have:=d.2.1 c[a] (cF f);grind [j1,n0]
theorem adC (d:fV c b) {e:X} (j:e<b) (i:a<b) (n:a<=e) (f:g<b) (h:w<b) (o:g<=w):(pz (hS c e:Z) (hS c a:Z)=(g:Z)/\py (hS c e:Z) (hS c a:Z)=(w:Z))↔(e:Z)=py (c.getD g 0) (c.getD w 0)/\(a:Z)=pz (c.getD g 0) (c.getD w 0):=by
 obtain⟨k,p⟩:=Ro d f;obtain⟨ay,r⟩:=Ro d h;obtain⟨t,u⟩:=d.pos j;obtain⟨l,m⟩:=d.pos i;have q:=d.Ru f;have s:=d.Ru h;rw[k,ay];constructor
 ·grind [ao,py,pz,hS]
 grind [n0,pz,py,ao]
theorem lC.skip {b:bm cY} (d:lC a c b N) (k:(b++[R]).Pairwise hy) (o:R.1<R.2.1):lC a c (b++[R]) N where
 len:=d.len
 get:=λm h=>by obtain⟨l,e,f,g⟩:=d.get m h;refine⟨l,e,f,λn j i=>?_⟩;rw[g n j i];unfold nS;rw[TA k,au];grind [pz,py]
theorem lC.add (y:fV c w) {h:bm cY} (i:lC w c h N) {j:X} (A:(h++[((b:Z),(a:Z),d,())]).Pairwise hy) (z:b<w) (t:a<w) (u:a<=b) (G:(g:Z)=pz (hS c b:Z) (hS c a:Z)) (F:(j:Z)=py (hS c b:Z) (hS c a:Z)) {n:bm (Z×fa)} {B C:X} (v:N[g]?=Y (Y (n,B))):lC w c (h++[((b:Z),(a:Z),d,())]) (N.set g (Y (kS n (j:Z) (aB (aX d)),C))) where
 len:=by rw[ams,i.len]
 get:=λf k=>by
  have x:g<N.length:=(hT.1 v).1;have D:∀e,e<w->f<=e->aB (nS (h++[((b:Z),(a:Z),d,())]) c f e)=if g=f/\j=e then aB (aX d) else aB (nS h c f e):=by intro e m l;have:=adC y z t u k m l;unfold nS;rw[TA A];grind
  by_cases p:f=g
  ·subst p;refine⟨_,_,List.getElem?_set_self x,λe m l=>?_⟩;rw[PF,D e m l];by_cases q:j=e
   ·grind
   rw[au aa,au (λi=>q i.2)];obtain⟨E,o,r,s⟩:=i.get f k;grind
  obtain⟨E,o,r,s⟩:=i.get f k;grind
theorem Un (w:m3 a o n c) (p:iZ a a o n c) (x:hH a a o n c=0) (q:fV S a):∃d,lC a S (eG o n c a) d/\td (((a:Z),(a:Z),o,n,c,()),S,())=Y (Y ((a:Z),(lK a (g6 (eG o n c a)) S,()),d,()),0,()):=by
 have O:=w.Bh;have h:=(kM.1 x).1;have ap:=tk h a (bd _);have a0:=tj h;have ce:=q.1;have a3:=vy h p.hw;suffices C:ae (td (((a:Z),(a:Z),o,n,c,()),S,())) λf=>∃d,lC a S (eG o n c a) d/\f=(Y ((a:Z),(lK a (g6 (eG o n c a)) S,()),d,()),0,()) by obtain⟨f,am,d,an,rfl⟩:=C;grind
 unfold td;refine bz p.check ?_;dsimp only;rw[aW (by grind),aW (by grind)];refine bz (Rq aa aa) ?_;rw[b8 q];dsimp only;rw[Bool.not_true,bP];refine bz (Ui w p x) (bz (Ud w p x) (bz (Uw (cw O ab) q) ?_));dsimp only;generalize av:lK a (g6 (eG o n c a)) S=l;refine bz (h0 aa) ?_;generalize N:(((a:Z),(a:Z),o,n,c,()):da)=I;refine bE (P:=λf=>f=(I,((a:Z),(l,()),az a (λ_=>(Y ([],0):ov)),()),())) ?_ ?_
 ·refine bQ a (λk r=>r=((k:Z),I,((a:Z),(l,()),az a (λj=>if j<k then(Y ([],0):ov) else bo),()),())) ?_ ?_ ?_
  ·rw[iQ];rfl
  ·rintro k _ L rfl;dsimp only;rw[aZ (aF (show(k:Z)<al (bI a (bo:ov)) by grind)),bc aa];refine bz (fc (by grind [cN])) ?_;rw[gO L,hx];refine bu.2 ?_;have:az a (eB (λj=>if j<k then(Y ([],0):ov) else bo) k (Y ([],0)))=az a (λj=>if j<k+1 then(Y ([],0):ov) else bo):=by
    refine db λj A=>?_;by_cases v:j=k
    ·simp_all [gG,aw]
    rw[hb _ _ v];grind
   grind
  rintro _ rfl;dsimp only;rw[aW (aA (show¬((a:Z)<al (bI a (bo:ov))) by grind))];have:az a (λj=>if j<a then(Y ([],0):ov) else bo)=az a (λ_=>(Y ([],0):ov)):=db λj A=>b8 A;grind [bu]
 rintro _ rfl;dsimp only;refine bE (P:=λf=>∃d,lC a S (eG o n c a) d/\f=(((a:Z),(l,()),d,()),())) ?_ (by grind [bu]);subst N;refine bQ a (λb r=>∃d,lC a S (eG o n c b) d/\r=((b:Z),((a:Z),(a:Z),o,n,c,()),((a:Z),(l,()),d,()),())) ⟨_,lC.nil,bn⟩ ?_ ?_
 ·rintro b _ t ⟨d,m,rfl⟩;have u:=h.len;obtain⟨e,M⟩:=cy (h.pos b aa);obtain⟨i,F⟩:=cy (h.pos (b+1) aa);have bl:i<=n.length:=(by have:=h.qG (b+1) aa;omega);have bx:e<=i:=(by have:=h.mono b t;omega);have A:=h.val;have a4:=p.hi;dsimp only;rw[aZ (aF (aa:(b:Z)<(a:Z))),bc aa];refine bz (y:=(e:Z)) (by rw[gu aa,M]) ?_;have Q:eG o n c (b+1)=eG o n c b++jj n c (b:Z) e (i-e):=by
   grind [eG]
  have T:(eG o n c (b+1)).Pairwise hy:=tk h (b+1) aa;refine bE (P:=λf=>∃d,lC a S (eG o n c (b+1)) d/\f=(((a:Z),(a:Z),o,n,c,()),((a:Z),(l,()),d,()),())) ?_ (by grind [bu]);refine bQ (i-e) (λg r=>∃d,lC a S (eG o n c b++jj n c (b:Z) e g) d/\r=(((e+g:X):Z),((a:Z),(a:Z),o,n,c,()),((a:Z),(l,()),d,()),())) ⟨d,by grind [jj],bn⟩ ?_ ?_
  ·rintro g _ ci ⟨d,m,rfl⟩;dsimp only;refine bz (y:=(i:Z)) (by rw[gu aa,F]) ?_;rw[aZ (aF (aa:((e+g:X):Z)<(i:Z)))];have R:=h.rng b (e+g) t aa aa;obtain⟨f,z⟩:=cy R.1;have H:(eG o n c b++jj n c (b:Z) e g++[((f:Z),(b:Z),c.getD (e+g) 0,())]).Pairwise hy:=by
    refine apq ?_ T;rw[Q,kZ];refine ap1 (ap2 _) ?_;have:jj n c (b:Z) e g++[((f:Z),(b:Z),c.getD (e+g) 0,())]=jj n c (b:Z) e (g+1):=(by rw[jj,z]);rw[this,Iv,Iv,<-EO (i-e) (g+1) _ aa];grind
   have K:eG o n c b++jj n c (b:Z) e (g+1)=eG o n c b++jj n c (b:Z) e g++[((f:Z),(b:Z),c.getD (e+g) 0,())]:=(by rw[kZ,jj,z]);rw[K];refine bE (P:=λad=>∃d,lC a S (eG o n c b++jj n c (b:Z) e g++[((f:Z),(b:Z),c.getD (e+g) 0,())]) d/\ad=(((a:Z),(a:Z),o,n,c,()),((a:Z),(l,()),d,()),())) ?_ ?_
   ·refine bz (y:=(f:Z)) (by rw[gu aa,z]) ?_;rw[c3];refine akP (λv=>?_) (λv=>?_)
    ·have G:f<a:=aa;refine bz (by rw[eR (by grind [cN]),lJ]) (bz (by rw[eR (by grind [cN]),lJ]) ?_);obtain⟨s,D,J⟩:∃s:X,(s:Z)=pz (hS S f:Z) (hS S b:Z)/\s<a:=by
      have:=(q.pos G).1;have:=(q.pos t).1;unfold pz;split
      ·grind
      grind
     obtain⟨B,E⟩:∃B:X,(B:Z)=py (hS S f:Z) (hS S b:Z):=(by unfold py;grind);change ae ((ba d.length (pz (hS S f:Z) (hS S b:Z))).bind _) _;rw[<-D];refine bz (fc (by rw[m.len];omega)) ?_;refine bz (gu aa) ?_;refine bz (r3 (p.hw _ (by grind))) ?_;dsimp only;obtain⟨V,U,u,_⟩:=m.get s J;refine bz (hC u) ?_;change ae ((yg (Y (V,U)) (py (hS S f:Z) (hS S b:Z)) _).bind _) _;rw[<-E];refine bz bn ?_;rw[hC u];exact bu.2 ⟨_,m.add q H G t aa D E u,bn⟩
    exact bu.2 ⟨d,m.skip H (by grind),bn⟩
   rintro _ ⟨d,C,rfl⟩;dsimp only;rw[bc aa];grind [bu]
  rintro _ ⟨d,m,rfl⟩;dsimp only;refine bz (y:=(i:Z)) (by rw[gu aa,F]) ?_;rw[aW (aA (aa:¬((e+(i-e):X):Z)<(i:Z)))];grind [bu]
 rintro _ ⟨d,m,rfl⟩;dsimp only;rw[aW (aA (aa:¬((a:Z)<(a:Z))))];grind [bu]
theorem aeY {E:bm cY} (h:lC a c E N) (p:b<a) (q:g<a):xP (Y ((a:Z),(t,()),N,()),(b:Z),(g:Z),())=Y (aB (nS E c b g),()):=by
 unfold xP;dsimp only;rw[bK];have r:∀d e:X,d<a->e<a->d<=e->((ar N (d:Z)).bind λn=>Y (((mR (α:=fa) n (e:Z)).getD (bp,((bp,([],())),((0:Z),())))),()))=Y (aB (nS E c d e),()):=(by intro d e k m l;obtain⟨s,o,i,j⟩:=h.get d k;refine ai (gg i) ?_;have:=j e m l;rw[<-this];rfl);by_cases f:(g:Z)<(b:Z)
 ·rw[aw f,au aa,WZ];grind
 grind
theorem FE (a:cE d≠2047):∃c,aX d=Y c:=by
 have ao:=AM d;have g:=xS d;unfold aX;rw[au a];unfold g7;generalize f:(if d<9223372036854775808 then if cE d=0 then gE d else gE d+4503599627370496 else-(if cE d=0 then gE d else gE d+4503599627370496))=b;have e:aO b.natAbs<=53:=fW.2 (by
  omega)
 split
 ·grind
 rw[au aa];grind
def afS (a:X->X->Z) (c d b:X):ez:=dc (cJ (aX (a b c)) (aX (a b d)))
def KV (c:X->X->ez) (d:X->X->Z) (a b:X):ez:=n9 (c b a::(bJ a).map (afS d b a))
def V7 (b:X->X->ez) (e:X->X->bA) (d:X->X->Z) (a c:X):Z:=
 if c=a then Ga (KV b d a a) 0 else if e a c=bq then gS (KV b d a c) (aX (Ga (KV b d a a) 0)) 0 else 0
def JC (a:X->X->ez) (b:X->X->bA):X->X->X->Z
 |0=>λ_ _=>0
 |j+1=>λd c=>if d=j then V7 a b (JC a b j) j c else JC a b j d c
def vN (b:X->X->ez) (d:X->X->bA) (a c:X):Z:=JC b d (a+1) a c
def Ry (a:e3 d) (b:e3 l):AE (d,l,())=Y (aB (cJ (aX d) (aX l)),()):=by unfold AE;refine ai (ua a) (ai (ua b) ?_);exact ai (KJ (iC _) (iC _)) rfl
theorem FC {k:X} (b:d.natAbs=2*a+1):cO (d*2^k)=d/\fM (d*2^k)=(k:Z)-65536:=by have c:(d*2^k).natAbs=(2*a+1)*2^k:=(by rw[kz,b]);have e:=yV c;unfold cO fM;grind [Int.mul_ediv_cancel,Int.pow_pos]
def Rw (b:d≠0) (a:X):d*2^a≠0:=amE b (by have:(0:Z)<2^a:=lz ab;omega)
theorem PR (e:d.natAbs=2*g+1) (o:l+a+65536=(b:Z)) (m:-65536<=l) (n:l+a+aO d.natAbs<=65536):g7 (d*2^a) l=Y (d*2^b):=by have k:d≠0:=aa;have f:(d*2^a).natAbs=(2*g+1)*2^a:=(by rw[kz,e]);have h:=yV f;have i:aO (d*2^a).natAbs=aO d.natAbs+a:=(by grind [kz,sV]);unfold g7;rw[au (Rw k a),h,i,au aa];obtain⟨c,j⟩:=gh (aa:0<=l+65536);rw[j];show Y (pM (d*2^a) (c:Z))=_;rw[ny,jz,<-ly,(aa:a+c=b)]
def IC {m:Z} {a t k:X} (c:d=m*2^t) (b:m.natAbs=2*a+1) (f:(t:Z)+65536=(k:Z)) (e:t+aO m.natAbs<=65536):iT d=Y (m*2^k):=by unfold iT;rw[c];exact PR b aa ab aa
def EL {a:X} (e:d.natAbs=2*a+1) (f:0<d) (c:Z):mm (Y (d*2^b)) c=n3 bp d.natAbs ((b:Z)-65536) bp c:=by obtain⟨g,h⟩:=FC (k:=b) e;show yE (d*2^b) c=_;unfold yE;rw[au (Rw aa b),g,h,aA];have:(0:Z)<d*2^b:=pV f (lz ab);omega
theorem Xg {a:X} (c:d.natAbs=2*a+1) (e:0<d):Ga (Y (d*2^b)) 0=Sb (Sa d.natAbs ((b:Z)-65536)) d.natAbs ((b:Z)-65536) 0:=by obtain⟨f,g⟩:=FC (k:=b) c;have:(0:Z)<d*2^b:=pV e (lz ab);show(if d*2^b<0 then(9221120237041090560:Z) else if d*2^b=0 then 0 else KQ (d*2^b) 0)=_;rw[au aa,au aa];grind [KQ]
theorem Xf {a b:X} (f:d.natAbs=2*a+1) (h:0<d) (c:l.natAbs=2*b+1) (e:0<l):gS (Y (d*2^g)) (Y (l*2^w)) 0=FZ (r7 d.natAbs l.natAbs) d.natAbs l.natAbs bp ((g:Z)-65536-((w:Z)-65536)) 0:=by obtain⟨i,j⟩:=FC (k:=g) f;obtain⟨m,n⟩:=FC (k:=w) c;have o:(0:Z)<d*2^g:=pV h (lz ab);have p:(0:Z)<l*2^w:=pV e (lz ab);show(if l*2^w=0 then(9221120237041090560:Z) else if d*2^g=0 then 0 else yz (d*2^g) (l*2^w) 0)=_;rw[au aa,au aa];grind [aA,yz]
def EK {a t:X} (c:l.natAbs=2*a+1) (g:(if d<9223372036854775808 then if cE d=0 then gE d else gE d+4503599627370496 else-(if cE d=0 then gE d else gE d+4503599627370496))=l*2^t) (f:cE d≠2047) (h:(if cE d=0 then-1074 else cE d-1075)+(t:Z)+65536=(b:Z)) (e:(if cE d=0 then-1074 else cE d-1075)+(t:Z)+aO l.natAbs<=65536):aX d=Y (l*2^b):=by unfold aX;rw[au f,g];refine PR c h ?_ e;have:=AM d;omega
def f4:mm (iT 4) 0=4616189618054758400:=by rw[IC (m:=1) (a:=0) (t:=2) (k:=65538) ab ab ab ab,EL (a:=0) ab ab];decide
def f2:mm (iT 2) 0=4611686018427387904:=by rw[IC (m:=1) (a:=0) (t:=1) (k:=65537) ab ab ab ab,EL (a:=0) ab ab];decide
def f5:mm (iT 5) 0=4617315517961601024:=by rw[IC (m:=5) (a:=2) (t:=0) (k:=65536) ab ab ab ab,EL (a:=2) ab ab];decide
def v4:aX 4616189618054758400=Y (1*2^65538):=EK (a:=0) (t:=52) ab ab ab ab ab
def fe:aX 4611686018427387904=Y (1*2^65537):=EK (a:=0) (t:=52) ab ab ab ab ab
def Lv:aX 4617315517961601024=Y (5*2^65536):=EK (a:=2) (t:=50) ab ab ab ab ab
def v1:aX 4607182418800017408=Y (1*2^65536):=EK (a:=0) (t:=52) ab ab ab ab ab
def aS:Ga (Y (1*2^65538)) 0=4611686018427387904:=by rw[Xg (a:=0) ab ab];decide+kernel
theorem ay:gS (Y (1*2^65537)) (Y (1*2^65537)) 0=4607182418800017408:=by rw[Xf (a:=0) (b:=0) ab ab ab ab];decide
theorem Ob:fV [0,1] 2:=⟨bn,λb a=>by
 grind,ab⟩
def IB:et:=[[1],[0]]
def mD (g f e:X) (h a d:aj6):Prop:=∃c,c<=a.length/\gx g f h (a.take c) (d.take c)/\d.length=a.length/\(∀b,c<=b->b<a.length->0<=a.getD b 0/\a.getD b 0<(e:Z))/\(∀b,c<b->b<a.length->a.getD (b-1) 0<a.getD b 0)
def gx.open (d:gx b a n c o):mD b a 0 n c o:=
 ⟨c.length,bd _,by rw[fN (bd _),fN (Nat.le_of_eq d.val)];exact d,d.val,λg f e=>absurd e aa,λg f e=>absurd e aa⟩
theorem mD.skip (f:mD g b a n c o):mD g b (a+1) n c o:=by obtain⟨m,h,i,j,k,l⟩:=f;exact⟨m,h,i,j,λp d e=>by have:=k p d e;omega,l⟩
def AV (b:a<c.length):(c++[d]).getD a 0=c.getD a 0:=by rw[k0,rf b,<-k0]
def IW:(c++[d]).getD c.length 0=d:=by rw[k0,rh (bd _)];simp
theorem mD.add (j:mD g b a n c o) (q:Z):mD g b (a+1) n (c++[(a:Z)]) (o++[q]):=by
 obtain⟨p,k,l,r,i,m⟩:=j;refine⟨p,by simp;omega,?_,by simp;omega,λe f h=>?_,λe f h=>?_⟩
 ·rw[uD k,uD aa];exact l
 ·rw[h5,rj] at h;rcases cT e c.length with d|d
  ·rw[AV d];have:=i e f d;omega
  obtain rfl:e=c.length:=aa;rw[IW];omega
 rw[h5,rj] at h;rcases cT e c.length with d|d
 ·rw[AV d,AV aa];exact m e f d
 obtain rfl:e=c.length:=aa;rw[IW,AV aa];exact(i (c.length-1) aa aa).2
def IX (d:a<b):(c.take b).getD a 0=c.getD a 0:=by rw[k0,sB d,<-k0]
def mD.close (s:mD b a b n c o):gx b (a+1) (n++[(c.length:Z)]) c o:=by
 obtain⟨x,m,i,t,u,v⟩:=s;have p:=i.len;have q:=i.last;rw[gn,hN m] at q;have l:(n++[(c.length:Z)]).getD (a+1) 0=(c.length:Z):=(by rw[<-p];exact IW);have e:∀d,d<=a->(n++[(c.length:Z)]).getD d 0=n.getD d 0:=λd j=>AV aa;have r:∀d,d<=a->n.getD d 0<=(x:Z):=λd j=>(by have:=i.qG d j;rw[gn,hN m] at this;exact this);refine⟨by simp[p],by rw[e 0 aa];exact i.first,λd j=>?_,l,t,λd k j g h=>?_,λd k j g h=>?_⟩
 ·rcases cT d a with f|f
  ·rw[e d aa,e (d+1) aa];exact i.mono d f
  obtain rfl:d=a:=aa;rw[e d aa,l,q];omega
 ·rcases cT d a with f|f
  ·rw[e d aa] at g;rw[e (d+1) aa] at h;have w:=r (d+1) aa;have:=i.rng d k f g h;rw[IX aa] at this;exact this
  obtain rfl:d=a:=aa;rw[e d aa] at g;rw[l] at h;exact u k aa aa
 rcases cT d a with f|f
 ·rw[e d aa] at g;rw[e (d+1) aa] at h;have w:=r (d+1) aa;have:=i.asc d k f g h;rw[IX aa,IX aa] at this;exact this
 obtain rfl:d=a:=aa;rw[e d aa] at g;rw[l] at h;exact v k aa aa
theorem gx.empty (d:X):gx d 0 [0] [] []:=⟨bn,bn,λb a=>absurd a aa,bn,bn,λb c a=>absurd a aa,λb c a=>absurd a aa⟩
structure wN (P:Z->Prop) (rows eL:X) (m:da):Prop where
 ex:∃st iA nB,m=((rows:Z),(eL:Z),st,iA,nB,())/\gx rows eL st iA nB/\(∀v∈nB,P v)/\iA.length<=eL*rows
abbrev sq:=wN e3
def sq.afl (g:b<=6) (f:a<=6) (d:gx b a o c n) (e:∀h∈n,e3 h) (i:c.length<=a*b):iZ b a o c n:=by have j:a*b<=6*6:=m8 f g;exact⟨aa,aa,aa,by rw[d.len];omega,by rw[d.val];omega,e⟩
def Ub (z:∀o,e3 o->ae (vg (o,d,())) λF=>u F.1) (C:c.length<=9223372036854775807) (D:a<=6) (A:b<=6):ae (vf (c,(a:Z),(b:Z),d,())) λl=>wN u a b l.1:=by
 have M:b*a<=6*6:=anh A D;unfold vf;dsimp only;refine bE (P:=λl=>wN u a b l.2.1) ?_ (by rintro⟨G,H,_⟩ q;exact bu.2 q);refine bQ b (λg r=>∃h e f,r=((g:Z),((0:Z),((0:Z),([],([],([],()))))),((a:Z),(b:Z),h,e,f,()),())/\gx a g h e f/\(∀i∈f,u i)/\e.length<=g*a) ?_ ?_ ?_
 ·exact⟨[0],[],[],bn,gx.empty a,ac,ac⟩
 ·rintro g _ B ⟨h,e,f,rfl,t,y,J⟩;have L:g*a+a<=6*6:=by
   have:(g+1)*a<=b*a:=iY _ B;rw[l3,mB] at this;omega
  dsimp only;rw[aZ (aF (aa:(g:Z)<(b:Z))),bc aa];refine bE (P:=λl=>∃e f,l=(((0:Z),((0:Z),([],([],([],()))))),((a:Z),(b:Z),h,e,f,()),())/\mD a g a h e f/\(∀i∈f,u i)/\e.length<=g*a+a) ?_ ?_
  ·refine bQ a (λj r=>∃e f,r=((j:Z),((0:Z),((0:Z),([],([],([],()))))),((a:Z),(b:Z),h,e,f,()),())/\mD a g j h e f/\(∀i∈f,u i)/\e.length<=g*a+j) ?_ ?_ ?_
   ·exact⟨e,f,bn,t.open,y,aa⟩
   ·rintro j _ K ⟨e,f,rfl,p,s,I⟩;have N:f.length=e.length:=by
     obtain⟨O,_,_,q,_⟩:=p;exact q
    dsimp only;rw[aZ (aF (aa:(j:Z)<(a:Z))),bc aa];refine bE (P:=λl=>∃e f,l=(((0:Z),((0:Z),([],([],([],()))))),((a:Z),(b:Z),h,e,f,()),())/\mD a g (j+1) h e f/\(∀i∈f,u i)/\e.length<=g*a+(j+1)) ?_ ?_
    ·refine bE (Ly c C _) ?_;rintro⟨E,_⟩ w;dsimp only at w|-;rw[ud ab ab,bK];unfold jf;rw[b8 ab,bK,c3];refine akP (λx=>?_) (λx=>?_)
     ·rw[eS (by simp;omega),bK];refine bE (z E w) ?_;rintro⟨i,_⟩ v;dsimp only at v|-;rw[eS (by simp;omega),bK];refine bu.2 ⟨_,_,bn,p.add i,λo n=>?_,by simp;omega⟩;rcases List.mem_append.1 n with n|n
      ·exact s o n
      obtain rfl:=gp.1 n;exact v
     exact bu.2 ⟨_,_,bn,p.skip,s,aa⟩
    rintro _ ⟨e,f,rfl,ay,k,m⟩;exact bu.2 ⟨e,f,bn,ay,k,m⟩
   rintro _ ⟨e,f,rfl,ay,k,m⟩;dsimp only;rw[aW (aA (aa:¬((a:Z)<(a:Z))))];exact bu.2 ⟨e,f,bn,ay,k,m⟩
  rintro _ ⟨e,f,rfl,ay,k,m⟩;dsimp only;rw[eS (by rw[t.len];simp;omega),bK];refine bu.2 ⟨_,_,_,bn,ay.close,k,by rw[Nat.add_mul,Nat.one_mul];omega⟩
 rintro _ ⟨h,e,f,rfl,ay,k,m⟩;dsimp only;rw[aW (aA (aa:¬((b:Z)<(b:Z))))];exact bu.2 ⟨h,e,f,bn,ay,k,m⟩
def sq.small (h:b<=5) (g:a<=5) (d:gx b a o c n) (e:∀i∈n,e3 i) (f:c.length<=a*b):iZ b a o c n:=
 sq.afl (c4 h ab) (c4 g ab) d e f
def LR (f:∀e,e3 e->ae (vg (e,d,())) λk=>u k.1) (h:c.length<=9223372036854775807) (i:b<=5) (g:a<=5):ae (vf (c,(b:Z),(a:Z),d,())) λj=>wN u b a j.1:=
 Ub f h (c4 i ab) (c4 g ab)
def Uc (g:c.length<=9223372036854775807) (h:b<=5) (f:a<=5) (d:Z):ae (vf (c,(b:Z),(a:Z),d,())) λi=>sq b a i.1:=
 LR (λ_ e=>Qg e d) g h f
theorem agl (e:u 0) {E:bm cY} (d:∀c∈E,u c.2.2.1) (a b:Z):u (ob E a b):=by grind [apt,decide,ob]
theorem TS (f:u 0) (h:iZ b a o n c) (k:∀d∈c,u d) (i:Z) (j:g<a):∃d,u d/\vk (((b:Z),(a:Z),o,n,c,()),i,(g:Z),())=Y (d,()):=by
 by_cases e:hH b a o n c=0
 ·exact⟨_,agl f (vy (kM.1 e).1 k) _ _,adR h e i j⟩
 refine⟨0,f,?_⟩;unfold vk;refine ai (y:=.inr (0,())) ?_ bn;refine ai h.yB ?_;grind
theorem UA (l:iZ g b n c o) (f:gx g b n c o) (d:w<g) (p:a<b):∃i,Ax (((g:Z),(b:Z),n,c,o,()),(w:Z),(a:Z),())=Y (i,()):=by
 have r:=f.pos a aa;have s:=f.pos (a+1) aa;have B:=f.qG (a+1) aa;have z:=f.mono a p;have x:=f.len;have v:=l.hi;have u:=l.hc;suffices j:ae (Ax (((g:Z),(b:Z),n,c,o,()),(w:Z),(a:Z),())) λm=>True by obtain⟨⟨i,_⟩,j,_⟩:=j;grind
 unfold Ax;dsimp only;rw[aA (aa:¬((w:Z)<0)),aA (aa:¬((w:Z)>=(g:Z))),aA (aa:¬((a:Z)<0)),aA (aa:¬((a:Z)>=(b:Z)))];refine bz (y:=.inl ()) rfl ?_;dsimp only;obtain⟨e,q⟩:=cy r;obtain⟨d,k⟩:=cy s;refine bz (y:=(e:Z)) (by rw[gu aa,q]) ?_;refine bE (P:=λm=>True) ?_ ?_
 ·refine bQ (d-e) (λh t=>t=(((e+h:X):Z),())) rfl ?_ ?_
  ·rintro h _ A rfl;dsimp only;refine bz (y:=(d:Z)) (by rw[bc aa,gu aa,k]) ?_;rw[aZ (aF (aa:((e+h:X):Z)<(d:Z)))];refine bz (gu aa) ?_;rw[fY,c3];refine akP (λ_=>bu.2 trivial) (λ_=>?_);rw[bc aa];grind [bu]
  rintro _ rfl;dsimp only;refine bz (y:=(d:Z)) (by rw[bc aa,gu aa,k]) ?_;rw[aW (aA (aa:¬(((e+(d-e):X):Z)<(d:Z))))];exact bu.2 trivial
 rintro(_|m) _
 ·exact bu.2 trivial
 exact bu.2 trivial
structure TY (P Q:Z->Prop) (afA:Z):Prop where
 z:P 0
 w:∀v,P v->e3 v
 q:∀v,P v->Q v
 num:∀x,e3 x->ae (vg (x,(tK afA 3:X),())) λy=>P y.1
 Wv:∀L:ep,L.length<=5->(∀d∈L,∃v,P v/\d=ru (aX v))->Q (mm (n9 (iT 1::L)) 2)
theorem TZ {P:Z->Prop} (r:TY P u d) (bl:c.length<=9223372036854775807) (s:a<=5):ae (Af (c,(a:Z),d,())) λk=>wN u a a k.1:=by
 have cv:a*a<=5*5:=anh s s;unfold Af;refine bz (vS d (n:=3) ab ab) ?_;refine bE (LR r.num bl s s) ?_;rintro⟨o,_⟩ I;dsimp only at I|-;obtain⟨U,T,V,rfl,J,K,a4⟩:=I.ex;have L:=sq.small s s J (λf t=>r.w f (K f t)) a4;have H:=λ(i:Z) (g:X) (p:g<a)=>TS r.z L K i p;have an:=λ(i g:X) (B:i<a) (p:g<a)=>UA L J B p;generalize(((a:Z),(a:Z),U,T,V,()):da)=o at*;refine bE (P:=λk=>wN u a a k.2.1) ?_ (by grind [bu]);refine bQ a (λg v=>∃j e b,v=((g:Z),((0:Z),((0:Z),([],([],([],()))))),o,((a:Z),(a:Z),j,e,b,()),())/\gx a g j e b/\(∀f∈b,u f)/\e.length<=g*a) ?_ ?_ ?_
 ·grind [gx.empty]
 ·rintro g _ p ⟨j,e,b,rfl,G,am,ci⟩;have co:g*a+a<=5*5:=by
   have:(g+1)*a<=a*a:=iY _ p;grind
  dsimp only;rw[aZ (aF (aa:(g:Z)<(a:Z))),bc aa];refine bE (P:=λk=>∃e b,k=(((0:Z),((0:Z),([],([],([],()))))),o,((a:Z),(a:Z),j,e,b,()),())/\mD a g a j e b/\(∀f∈b,u f)/\e.length<=g*a+a) ?_ ?_
  ·refine bQ a (λi v=>∃e b,v=((i:Z),((0:Z),((0:Z),([],([],([],()))))),o,((a:Z),(a:Z),j,e,b,()),())/\mD a g i j e b/\(∀f∈b,u f)/\e.length<=g*a+i) ?_ ?_ ?_
   ·exact⟨e,b,bn,G.open,am,aa⟩
   ·rintro i _ B ⟨e,b,rfl,y,S,ce⟩;have c1:b.length=e.length:=by
     obtain⟨l,_,_,ad,_⟩:=y;exact ad
    dsimp only;rw[aZ (aF (aa:(i:Z)<(a:Z))),bc aa];refine bE (P:=λk=>∃e b,k=(((0:Z),((0:Z),([],([],([],()))))),o,((a:Z),(a:Z),j,e,b,()),())/\mD a g (i+1) j e b/\(∀f∈b,u f)/\e.length<=g*a+(i+1)) ?_ ?_
    ·have M:∀(F:Z),u F->∀f∈b++[F],u f:=λF c2 f t=>by
      grind
     rw[fY,c3];refine akP (λQ=>?_) (λQ=>?_)
     ·refine bz (KI ab ab) ?_;dsimp only;refine bE (P:=λk=>∃h:ep,k=(((0:Z),((0:Z),([],([],([],()))))),o,((a:Z),(a:Z),j,e,b,()),(iT 1::h).map aB,())/\(∀m∈h,∃f,P f/\m=ru (aX f))/\h.length<=a) ?_ ?_
      ·refine bQ a (λl v=>∃h:ep,v=((l:Z),((0:Z),((0:Z),([],([],([],()))))),o,((a:Z),(a:Z),j,e,b,()),(iT 1::h).map aB,())/\(∀m∈h,∃f,P f/\m=ru (aX f))/\h.length<=l) ?_ ?_ ?_
       ·simp_all
       ·rintro l _ cs ⟨h,rfl,D,N⟩;dsimp only;rw[aZ (aF (aa:(l:Z)<(a:Z))),bc aa];refine bE (P:=λk=>∃h:ep,k=(((0:Z),((0:Z),([],([],([],()))))),o,((a:Z),(a:Z),j,e,b,()),(iT 1::h).map aB,())/\(∀m∈h,∃f,P f/\m=ru (aX f))/\h.length<=l+1) ?_ ?_
        ·rw[fL,<-decide_not,c3];refine akP (λR=>?_) (λR=>?_)
         ·obtain⟨x,av,a0⟩:∃x:X,(if(l:Z)<(i:Z) then(l:Z) else(i:Z))=(x:Z)/\x<a:=by
           grind
          rw[av];obtain⟨f,t,C⟩:=H (if(l:Z)>(i:Z) then(l:Z) else(i:Z)) x a0;refine bz C (bz (ua (r.w f t)) (bz (aem (iC _)) ?_));rw[eS (by grind)];refine bu.2 ⟨h++[ru (aX f)],ac,λm a3=>?_,by grind⟩;grind
         grind [bu]
        grind [bu]
       rintro _ ⟨h,rfl,D,N⟩;dsimp only;rw[aW (aA (aa:¬((a:Z)<(a:Z))))];grind [bu]
      rintro _ ⟨h,rfl,D,N⟩;dsimp only;rw[eS (by grind),bK];have bx:∀m∈iT 1::h,cW m:=λm a3=>(by grind [UX,iC,x2]);refine bz (RQ bx (by grind)) ?_;refine bz (Sg (afE _)) ?_;dsimp only;rw[eS (by grind),bK];exact bu.2 ⟨_,_,bn,y.add _,M _ (r.Wv h aa D),by grind⟩
     obtain⟨O,ap⟩:=an i g B p;refine bz ap ?_;dsimp only;cases O with
     |true=>
      rw[bG,eS (by grind),bK];obtain⟨f,t,C⟩:=H (i:Z) g p;refine bz C ?_;dsimp only;rw[eS (by grind),bK];exact bu.2 ⟨_,_,bn,y.add _,M _ (r.q _ t),by grind⟩
     |false=>
      rw[bP];exact bu.2 ⟨_,_,bn,y.skip,S,aa⟩
    grind [ay,bu]
   rintro _ ⟨e,b,rfl,ay,A,E⟩;dsimp only;rw[aW (aA (aa:¬((a:Z)<(a:Z))))];grind [bu]
  rintro _ ⟨e,b,rfl,ay,A,E⟩;dsimp only;rw[eS (by rw[G.len];grind),bK];refine bu.2 ⟨_,_,_,bn,ay.close,A,by grind⟩
 rintro _ ⟨j,e,b,rfl,ay,A,E⟩;dsimp only;rw[aW (aA (aa:¬((a:Z)<(a:Z))))];exact bu.2 ⟨j,e,b,bn,ay,A,E⟩
def T0 (b:c.length<=9223372036854775807) {n:X} (d:n<=5) (f:Z):ae (Af (c,(n:Z),f,())) λe=>sq n n e.1:=
 TZ (P:=e3) ⟨⟨ab,ab⟩,λ_ a=>a,λ_ a=>a,λ_ a=>Qg a _,λ_ _ _=>BH _ _⟩ b d
theorem Up (j:c.length<=9223372036854775807) (r:a<=12):ae (Ag (c,(a:Z),())) λd=>d.1.Perm ((bJ a).map (λf:X=>(f:Z))):=by
 unfold Ag;dsimp only;refine bE (P:=λd=>d.1.Perm ((bJ a).map (λf:X=>(f:Z)))) ?_ (by grind [bu]);refine bQ a (λe p=>∃b,p=(b,(e:Z),())/\b.Perm ((bJ e).map (λf:X=>(f:Z)))) ⟨[],bn,amD _⟩ ?_ ?_
 ·rintro e _ q ⟨b,rfl,l⟩;have k:b.length=e:=(by have:=l.length_eq;grind);dsimp only;rw[aZ (aF (aa:(e:Z)<(a:Z))),bc aa];refine bE (Ly c j _) ?_;rintro⟨i,_⟩ o;dsimp only at o|-;rw[ud ab ab,bK];refine bz (vS _ (n:=e+1) aa aa) ?_;have s:=Fy (ax (i/2^(1:Z).toNat)) (n:=e+1) aa;dsimp only;generalize tK (ax (i/2^(1:Z).toNat)) (e+1)=d at*;refine bz (Gl aa) ?_;dsimp only;rw[eS (by grind),bK,eS (by grind),bK];have m:((g8 (d:Z)).bind λg=>(Y b.length).bind λh=>(hZ g h b.length).map λ_=>(g,h))=Y (d,b.length):=by
   have:g8 (d:Z)=Y d:=(by simp_all [aw,fU,g8]);rw[this];show(hZ d b.length b.length).map _=_;unfold hZ;grind
  refine bz m ?_;dsimp only;rw[eS (by grind),bK];refine bu.2 ⟨_,bn,?_⟩;rw[akD,amA,cB];have t:b.take d++b.drop d=b:=amj d b;grind
 rintro _ ⟨b,rfl,k⟩;simp_all [bu,aW,aA]
theorem Uo (d:c.length<=9223372036854775807) {n:X} (e:n<=5):ae (Ag (c,(n:Z),())) λa=>a.1.length=n:=
 (Up d (c4 e ab)).mono λa b=>by have:=b.length_eq;grind
theorem P8 (a:X):g8 (a:Z)=Y a:=by simp_all [aw,fU,g8]
theorem SO (e:b<=a) (f:a<=g):((g8 (b:Z)).bind λc=>(g8 (a:Z)).bind λd=>(hZ c d g).map λ_=>(c,d))=Y (b,a):=by simp_all [aw,P8,hZ]
def af3 (e:a*2^g=b*2^w) (h:0<a) (f:0<b):cV a+g=cV b+w/\aO a+g=aO b+w:=by have c:=b6 cV e;have d:=b6 aO e;rw[Gz aa,Gz f] at c;rw[sV aa,sV f] at d;exact⟨c,d⟩
theorem P4 (a:l*d=z*2^65536) (q:gb z):cJ (Y l) (Y d)=Y z:=by
 show g7 (cO l*cO d) (c7 l+c7 d)=Y z;have f:∀g:X,(2:Z)^g≠0:=λg=>(by have:(0:Z)<2^g:=lz ab;omega);by_cases b:l=0
 ·rw[b,om] at a;rw[b,FB,om,(amr.1 a.symm).resolve_right (f _)];rfl
 by_cases c:d=0
 ·rw[c,alT] at a;rw[c,FB,alT,(amr.1 a.symm).resolve_right (f _)];rfl
 have t:=qM l;have u:=qM d;have aM:=lj b;have s:=lj c;have w:=Bl.1 ⟨aa,Qk b⟩;have x:=Bl.1 ⟨aa,Qk c⟩;have o:cO l*cO d≠0:=amE aM s;have j:cV (cO l*cO d).natAbs=0:=(by refine(Bl.2 ?_).2;rw[o4,Nat.mul_mod,w,x]);have ao:cO l*cO d*2^(cV l.natAbs+cV d.natAbs)=z*2^65536:=by
  rw[<-a,ly]
  conv=>rhs;rw[<-t,<-u]
  rw[jz,jz,Int.mul_left_comm (cO d)]
 have m:c7 l=(cV l.natAbs:Z)-65536:=(by rw[c7,au b];rfl);have n:c7 d=(cV d.natAbs:Z)-65536:=(by rw[c7,au c];rfl);rw[m,n];generalize cV l.natAbs=h at*;generalize cV d.natAbs=i at*;generalize cO l*cO d=B at*;have e:=b6 Int.natAbs ao;rw[kz,kz] at e;have r:0<z.natAbs:=adD e aa;obtain⟨k,y⟩:=af3 e aa r;rw[j] at k;have A:aO z.natAbs<=131072:=q;unfold g7;rw[au o,j,au aa];obtain⟨v,p⟩:=gh (aa:0<=(h:Z)-65536+((i:Z)-65536)+65536);rw[p,ny];congr 1;have:h+i=v+65536:=aa;rw[this,ly,<-jz] at ao;exact Int.mul_eq_mul_right_iff (f _)|>.1 ao
def nZ (a:Z):Z:=if a<9223372036854775808 then if cE a=0 then gE a else gE a+4503599627370496 else-(if cE a=0 then gE a else gE a+4503599627370496)
def pp (a:Z):Z:=if cE a=0 then-1074 else cE a-1075
def IA (a:cE d≠2047):-1074<=pp d/\pp d<=971:=by have:=AM d;unfold pp;split<;>omega
def P0 (a:Z):aO (nZ a).natAbs<=53:=fW.2 (by
 have b:=xS a;have:(2:X)^53=9007199254740992:=ab;rw[this];unfold nZ;split<;>split<;>omega)
theorem tR (b:cE d≠2047):aX d=Y (nZ d*2^(pp d+65536).toNat):=by
 have h:=IA b;have g:=P0 d;unfold aX;rw[au b];change g7 (nZ d) (pp d)=_;generalize nZ d=f at*;generalize pp d=c at*;unfold g7;by_cases a:f=0
 ·rw[aw a,a,om]
 rw[au a,au aa];obtain⟨i,e⟩:=gh (aa:0<=c+65536);rw[e,ny,fU]
section
section
variable {A:X->X->ez} {G:et} {o:aj6} {n:X}
def Yu (u:n<=200) (h:fV o n):Nv (o,())=Y (bq,()):=by
 have l:=h.1;unfold Nv;dsimp only;rw[show al o=(n:Z) by rw[a7,l]];refine ai (h0 aa) ?_;refine bO.1 ?_;refine bE (P:=λq=>q=.inl ()) ?_ (by rintro _ rfl;exact bu.2 bn);refine bQ n (λa r=>r=((a:Z),az n (λb=>br ((b:Z)∈o.take a)),())) ?_ ?_ ?_
 ·rw[iQ];simp
 ·rintro a _ t rfl;dsimp only;rw[aZ (aF (aa:(a:Z)<(n:Z))),eR (aa:a<o.length)];have j:o.take (a+1)=o.take a++[o[a]'(by omega)]:=by rw[akd,bX aa];rfl
  have p:=h.2.1 _ (cF (aa:a<o.length));have i:=aom (amC (a+1) o) h.2.2;rw[j,jt] at i;have m:o[a]'(by omega)∉o.take a:=λk=>i.2.2 _ k _ (gp.2 bn) rfl
  have g:∀e,e∈o.take (a+1)↔e∈o.take a\/e=o[a]'(by omega):=λe=>by rw[j,hn,gp]
  clear i j;generalize w:o[a]'(by omega)=b at*
  obtain⟨d,rfl⟩:=gh p.1;simp only[aE];rw[aZ (show(br ((d:Z)<0)==bp)=bq by rw[aA aa];rfl),aZ (show(br ((d:Z)>=(n:Z))==bp)=bq by rw[aA aa];rfl)];rw[je (by rw[cN];omega),lJ,aW (aA m)];simp only[aE];rw[lr (by rw[cN];omega),hx];refine bu.2 ?_;rw[bc aa];have:az n (eB (λb=>br ((b:Z)∈o.take a)) d bq)=az n (λb=>br ((b:Z)∈o.take (a+1))):=by
   refine db λs v=>?_;by_cases f:s=d
   ·subst f;rw[gG,aF ((g _).2 (.inr bn))]
   rw[hb _ _ f];exact aj8.2 ⟨λc=>(g _).2 (.inl c),λc=>((g _).1 c).resolve_right λc=>f aa⟩
  rw[this]
 rintro _ rfl;dsimp only;rw[aW (aA (aa:¬((n:Z)<(n:Z))))];exact bu.2 bn
end
end
section
section
variable {A:X->X->ez} {G:et} {o:aj6} {n:X}
def NM {n j:X} (b:a<n):(j*n+a)/n=j/\(j*n+a) %n=a:=by
 constructor
 ·rw[qb,aoi aa,anf b,l4]
 rw[qb,Nat.mul_add_mod,Nat.mod_eq_of_lt b]
def Hr {n:X} (c:a<n) (d:b<n):a*n+b<n*n:=by have:(a+1)*n<=n*n:=iY _ c;rw[l3,mB] at this;omega
def BT {n:X} (a:n<=5):n*n<=25:=m8 a a
def TF {n:X} (f:n<=5) (e:a<n) (d:b<n):ax (ax ((a:Z)*(n:Z))+(b:Z))=((a*n+b:X):Z):=by have h:=Hr e d;have i:=BT f;have c:(a:Z)*(n:Z)=((a*n:X):Z):=(by rw[sv]);rw[c];generalize a*n=g at*;generalize n*n=j at*;rw[bh (x:=(g:Z)) aa aa,bh aa aa];omega
def agv {n:X} (b:n<=5):ax ((n:Z)*(n:Z))=((n*n:X):Z):=by have c:=BT b;have a:(n:Z)*(n:Z)=((n*n:X):Z):=(by rw[sv]);rw[a];generalize n*n=d at*;rw[bh aa aa]
end
end
section
section
variable {A:X->X->ez} {G:et} {o:aj6} {n:X}
def adY (a:n<=5):Ep ((n:Z),(n:Z),())=Y (((n:Z),(n:Z),az (n*n) (λ_=>kt),()),()):=by have b:=BT a;unfold Ep;dsimp only;rw[agv a];refine ai (h0 aa) ?_;rw[iQ];rfl
def q2 (b:X->fa) (c a:X):fa:=if a<c then b a else kt
theorem agb (c:X->fa):(az b (q2 c a)).set a (c a)=az b (q2 c (a+1)):=by
 rw[hx];refine db λe _=>?_;by_cases d:e=a
 ·simp_all [aw,gG,q2]
 rw[hb _ _ d];unfold q2;grind
end
end
theorem yx (a b:X):(2:Z)^(a+b)=2^a*2^b:=ly 2 a b
section
def Sz (b:ez) (n:Z):ez:=b.bind λa=>if a=0 then Y 0 else g7 (cO a) (fM a+n)
def aeP (c:cW P) {n:Z} (k:-262144<=n) (l:n<=262144):Ea (aB P,n,())=Y (aB (Sz P n),()):=by
 unfold Ea;refine ai (oS c) ?_;cases P with
 |none=>rfl
 |some a=>
  have d:=c a bn;have j:=ki d;have f:=kB d;rw[hu];have h:=j6 (z:=cO a) aa;dsimp only;rw[aZ (by rfl),h,bK,bK];dsimp only;rw[kj,c3];by_cases b:a=0
  ·rw[aw (Qj.2 b)];subst b;rfl
  have i:=λe=>b (Qj.1 e);rw[cc i,bK];dsimp only;rw[aZ (by rw[aA aa];rfl),bK];dsimp only;rw[aA aa,bP,bK];dsimp only;have g:c7 a=fM a:=(by unfold c7;rw[cc b]);rw[g] at f|-;rw[bh aa aa];refine ai (tY aa aa aa) ?_;show Y (aB (g7 (cO a) (fM a+n)),())=Y (aB (if a=0 then Y 0 else g7 (cO a) (fM a+n)),());rw[cc b]
section
variable {A:X->X->ez} {G:et} {o:aj6} {n:X}
end
end
def gH (a:X) (b:Z):Prop:=∃c,b=c*2^a
theorem gH.zero (a:X):gH a 0:=⟨0,by rw[om]⟩
theorem gH.add (c:gH a d) (b:gH a l):gH a (d+l):=by obtain⟨e,rfl⟩:=c;obtain⟨f,rfl⟩:=b;exact⟨e+f,by rw[ane]⟩
def gH.neg (b:gH a d):gH a (-d):=by obtain⟨c,rfl⟩:=b;exact⟨-c,by rw[Int.neg_mul]⟩
theorem gH.mono (e:gH b d) (c:a<=b):gH a d:=by obtain⟨g,rfl⟩:=e;obtain⟨f,rfl⟩:=Nat.exists_eq_add_of_le c;exact⟨g*2^f,by rw[al9,yx,jz]⟩
def gH.shl (a:X) (b:Z):gH a (b*2^a):=⟨b,bn⟩
theorem gH.Tq (c:d≠0):gH a d↔a<=cV d.natAbs:=by
 rw[tB aa];constructor
 ·rintro⟨e,rfl⟩;rw[kz,Nat.mul_mod_left]
 intro b;exact⟨d/2^a,(EC b).symm⟩
def gH.ex (c:d≠0) (b:gH a d):(a:Z)-65536<=fM d:=by have:=(gH.Tq c).1 b;unfold fM;omega
section
def XB {B:X} (c:B=65536) (b:cE l≠2047) (a:aX l=Y d):gH (B-1074) d:=by rw[tR b] at a;cases a;have e:=IA b;exact(gH.shl _ _).mono aa
section
variable {A:X->X->ez} {G:et} {o:aj6} {n J:X}
variable {B b:X}
end
end
section
def cC (A e k c:X) (b:ez):Prop:=∃a,b=Y a/\gH (A-e) a/\a.natAbs<=c*2^(A+k)
section
variable {A e k c B D C:X} {a b:ez}
theorem cC.rng (h:A=65536) (j:k<=60000) (i:c<1048576) (a:d.natAbs<=c*2^(A+k)):gb d:=by have f:=kK a;have b:aO c<=20:=fW.2 aa;have e:aO (2^(A+k))<=A+k+1:=fW.2 (Rj _ _ aa);have g:=xi b e;grind [gb]
theorem cC.mono (b:cC A e k c a) (i:e<=B) (j:k<=D) (g:c<=C):cC A B D C a:=by obtain⟨h,rfl,d,f⟩:=b;exact⟨h,bn,d.mono aa,c4 f (m8 g (FR _ _ aa))⟩
theorem cC.zero:cC A e k c (Y 0):=⟨0,bn,gH.zero _,eU _⟩
def cC.neg (b:cC A e k c a):cC A e k c (dc a):=by obtain⟨f,rfl,d,g⟩:=b;exact⟨-f,bn,d.neg,aa⟩
theorem cC.add (m:A=65536) (o:k<=60000) (j:cC A e k c a) (h:cC A e k C b) (n:c+C<1048576):cC A e k (c+C) (cR a b)/\cR a b=Y (a.getD 0+b.getD 0):=by obtain⟨d,rfl,l,q⟩:=j;obtain⟨f,rfl,i,p⟩:=h;have g:(d+f).natAbs<=(c+C)*2^(A+k):=(by grind);have e:cR (Y d) (Y f)=Y (d+f):=(by show oD (d+f)=_;unfold oD;rw[aw (cC.rng m o n g)]);exact⟨⟨_,e,l.add i,g⟩,e⟩
theorem cC.mul (q:A=65536) (o:cC A e k c a) (m:cC A B D C b) (v:e+B<=60000) (s:k+D<=60000) (r:c*C<1048576):cC A (e+B) (k+D) (c*C) (cJ a b)/\∃d f l,a=Y d/\b=Y f/\cJ a b=Y l/\l*2^A=d*f:=by obtain⟨d,rfl,⟨g,t⟩,p⟩:=o;obtain⟨f,rfl,⟨h,u⟩,n⟩:=m;have ao:g*h*2^(A-(e+B))*2^A=d*f:=(by rw[t,u,jz (g*h),<-yx,(aa:A-(e+B)+A=(A-e)+(A-B)),yx];grind);have i:(g*h*2^(A-(e+B))).natAbs<=c*C*2^(A+(k+D)):=(by refine Nat.le_of_mul_le_mul_right (c:=2^A) ?_ (j8 A);rw[<-kz,ao,o4];refine c4 (m8 p n) (Nat.le_of_eq ?_);grind);have j:cJ (Y d) (Y f)=Y (g*h*2^(A-(e+B))):=(by refine P4 ?_ (cC.rng q s r i);grind);exact⟨⟨_,j,gH.shl _ _,i⟩,d,f,_,bn,bn,j,ao⟩
def cC.kv (c:A=65536) (a:cE d≠2047):cC A 1074 1024 1 (aX d):=by obtain⟨f,b⟩:=FE a;refine⟨f,b,XB c a b,?_⟩;rw[tR a] at b;obtain rfl:=gq b;have g:=IA a;have e:(nZ d).natAbs<2^53:=fW.1 (P0 d);rw[kz,mB];refine c4 (iY _ (Nat.le_of_lt e)) ?_;rw[<-k2];exact FR _ _ aa
end
end
section
def kk (a c b:Z):ez:=cJ (cJ (aX a) (aX c)) (aX b)
section
variable {A c:X}
def cC.kk (a:A=65536) {b d c:Z} (e:cE b≠2047) (g:cE d≠2047) (f:cE c≠2047):cC A 3222 3072 1 (kk b d c):=
 (cC.mul a (cC.mul a (cC.kv a e) (cC.kv a g) ab ab ab).1 (cC.kv a f) ab ab ab).1
def cC.sub (g:A=65536) {a:ez} (d:cC A 3222 3072 c P) (b:cC A 3222 3072 1 a) (h:c+1<1048576):cC A 3222 3072 (c+1) (cR P (dc a))/\cR P (dc a)=Y (P.getD 0-a.getD 0):=by obtain⟨e,f⟩:=cC.add g ab d b.neg h;refine⟨e,f.trans ?_⟩;obtain⟨i,rfl,_⟩:=b;rfl
def cC.afB (a:A=65536) {f b d e:ez} (g:cC A 3222 3072 c f) (h:cC A 3222 3072 1 P) (i:cC A 3222 3072 1 b) (j:cC A 3222 3072 1 d) (k:cC A 3222 3072 1 e) (D:c+4<1048576):cR (cR (cR (cR f (dc P)) (dc b)) (dc d)) (dc e)=cR f (dc (cR (cR (cR P b) d) e))/\cC A 3222 3072 (c+4) (cR f (dc (cR (cR (cR P b) d) e))):=by obtain⟨m,p⟩:=cC.sub a g h aa;obtain⟨n,q⟩:=cC.sub a m i aa;obtain⟨o,r⟩:=cC.sub a n j aa;obtain⟨C,s⟩:=cC.sub a o k aa;obtain⟨t,x⟩:=cC.add a ab h i ab;obtain⟨u,y⟩:=cC.add a ab t j ab;obtain⟨v,z⟩:=cC.add a ab u k ab;obtain⟨w,B⟩:=cC.add a ab g v.neg aa;refine⟨?_,w⟩;rw[s,B,r,q,p,z,y,x];obtain⟨l,rfl,_⟩:=g;show Y (l-P.getD 0-b.getD 0-d.getD 0-e.getD 0)=Y (l+-(P.getD 0+b.getD 0+d.getD 0+e.getD 0));congr 1;omega
end
structure a9 where
 rows:aj5
 full:X
 s:X->X->ez
def a9.bj (c:a9) (a b:X):Z:=mm (c.s a b) 0
def a9.av (c:a9) (a b:X):Z:=((aX (c.bj a b)).getD 0).natAbs
def a9.fin (a:a9) (c:X):Prop:=∀b∈a.rows,cE (a.bj b c)≠2047
instance(b:a9) (a:X):akI (b.fin a):=apu ..
def hQ (b:X->Z) (c:X):aj5->Z×aj1->Z×aj1
 |[],a=>a
 |i::d,a=>hQ b c d (if i=c then a else if a.2=bo\/a.1<b i then(b i,Y i) else a)
def a9.hh (b:a9) (a:X):Z×aj1:=hQ (λc=>b.av c a) a b.rows (0,bo)
def a9.iO (a:a9):aj5->bv aj5
 |[]=>Y []
 |p::c=>if¬a.fin p then bo else
  if(a.hh p).1=0\/41*(a.hh p).1<=64*a.av p p then Y [p] else
  match(a.hh p).2 with
  |none=>Y [p]
  |some b=>if b∉a.rows.take a.full then a.iO c else if¬a.fin b then bo else
   if 41*((a.hh p).1*(a.hh p).1)<=64*(a.av p p*(a.hh b).1) then Y [p] else
   if 41*(a.hh b).1<=64*a.av b b then Y [b] else Y [p,b]
def a9.choose (a:a9):bv aj5:=a.iO (a.rows.take a.full)
structure aP where
 aY:aj5
 d:aj6
 rows:aj5
 l:bm (X->Z)
def ja (a:aj6):ez:=cR (cJ (aX (a.getD 0 0)) (aX (a.getD 2 0))) (dc (cJ (aX (a.getD 1 0)) (aX (a.getD 1 0))))
def a9.ks (a:a9):aj5->aj6
 |[p]=>[a.bj p p]
 |[p,r]=>[a.bj p p,a.bj r p,a.bj r r]
 |_=>[]
def a9.lc (a:a9):aj5->bm (X->Z)
 |[p]=>[λb=>if oL (a.bj p p)=0 then 0 else gS (a.s b p) (aX (a.bj p p)) 0]
 |[p,r]=>[λb=>gS (cR (cJ (a.s b p) (aX (a.bj r r))) (dc (cJ (a.s b r) (aX (a.bj r p))))) (ja (a.ks [p,r])) 0,λb=>gS (cR (cJ (a.s b r) (aX (a.bj p p))) (dc (cJ (a.s b p) (aX (a.bj r p))))) (ja (a.ks [p,r])) 0]
 |_=>[]
def AT (e:aj6) (f:bm (X->Z)) (b d:X):ez:=match e,f with
 |[d0],[a]=>kk (a b) d0 (a d)
 |[d0,d1,d2],[a,c]=>cR (cR (cR (kk (a b) d0 (a d)) (kk (a b) d1 (c d))) (kk (c b) d1 (a d))) (kk (c b) d2 (c d))
 |_,_=>Y 0
def a9.elim (a:a9) (c:aj5):a9:=⟨a.rows.filter λb=>br (b∉c),a.full-c.length,λb d=>cR (a.s b d) (dc (AT (a.ks c) (a.lc c) b d))⟩
def a9.dd (b:a9) (a:aj5):aP:=⟨a,b.ks a,b.rows.filter λc=>br (c∉a),b.lc a⟩
def aP.fin (a:aP):Prop:=∀b∈a.l,∀c∈a.rows,cE (b c)≠2047
instance(a:aP):akI a.fin:=apu ..
def a9.run:X->a9->bv (a9×bm aP)
 |0,a=>Y (a,[])
 |n+1,a=>match a.choose with
  |none=>bo
  |some []=>Y (a,[])
  |some b=>if(a.dd b).fin then(a9.run n (a.elim b)).map λc=>(c.1,a.dd b::c.2) else bo
end
def a9.okd (a:a9):Prop:=∀b∈a.rows,∀c∈a.rows,cW (a.s b c)
def a9.MG (c:a9) (d:cE (c.bj a b)≠2047):ru (aX (c.bj a b))=Y (c.av a b):=by obtain⟨f,e⟩:=FE d;unfold a9.av;rw[e];rfl
theorem Jb {n:Z} (c:n.natAbs<1024) (d:a=65536):iT n=Y (n*2^a):=by
 have e:aO n.natAbs<=10:=fW.2 aa;unfold iT;rw[Bf (v:=n*2^a) ab (by rw[(aa:((0:Z)+65536).toNat=a)])];unfold oD;rw[aw];unfold gb;rw[kz];rcases rk n.natAbs with b|b
 ·grind
 grind [sV]
theorem P6 (b:d.natAbs<1024) (e:gb (d*l)):cJ (iT d) (Y l)=Y (d*l):=by obtain⟨a,c⟩:∃a:X,a=65536:=⟨_,bn⟩;rw[Jb b c];grind [amx,akF,P4]
def OI (d:X->Z) (c:X):∀(a b:aj5) (e:Z×aj1),hQ d c (a++b) e=hQ d c b (hQ d c a e)
 |[],_,_=>rfl
 |i::a,b,e=>OI d c a b _
def zx:aj1->Z
 |none=>-1
 |some a=>a
theorem gH.UW (b:gH a d):gH a (d.natAbs:Z):=by
 rcases Int.natAbs_eq d with c|c
 ·grind
 have:=b.neg;grind
def cC.abs (c:cC a g w b (Y d)):cC a g w b (Y (d.natAbs:Z)):=by obtain⟨i,f,e,h⟩:=c;cases f;exact⟨_,bn,gH.UW e,aa⟩
def a9.zy (f:a=65536) (e:a9) (c:cE (e.bj b g)≠2047):cC a 1074 1024 1 (Y (e.av b g)):=by have:=cC.kv f c;obtain⟨h,d⟩:=FE c;rw[d] at this;unfold a9.av;rw[d];exact this.abs
theorem IZ {a:X} {e:X->Z} {h:X}:∀{c:aj5} {b:Z×aj1},(∀i∈c,cC a 1074 1024 1 (Y (e i)))->cC a 1074 1024 1 (Y b.1)->cC a 1074 1024 1 (Y (hQ e h c b).1)
 |[],_,_,d=>d
 |i::c,b,f,d=>by rw[hQ];refine IZ (λg j=>f g (by grind)) ?_;grind
def a9.OM (e:a=65536) (c:a9) (d:c.fin b):cC a 1074 1024 1 (Y (c.hh b).1):=IZ (λg f=>c.zy e (d g f)) cC.zero
theorem cC.cX (f:a=65536) (c:cC a w g b (Y d)) (i:g<=60000) (h:b<1048576):gb d:=by obtain⟨k,j,_,e⟩:=c;grind [cC.rng]
def cC.yJ (h:g=65536) (e:cC g w a b (Y l)) (i:a<=60000) (n:b<=1024) (j:d.natAbs<=100):gb (d*l):=by obtain⟨o,m,_,f⟩:=e;cases m;refine cC.rng (c:=102400) h i ab (k:=a) ?_;rw[o4];refine c4 (m8 j f) ?_;rw[<-uF];exact iY _ aa
theorem OL {e:X->Z} {d:X}:∀{c:aj5} {a:Z×aj1},(hQ e d c a).2=bo->a.2=bo/\(hQ e d c a).1=a.1
 |[],_,b=>⟨b,bn⟩
 |i::c,a,b=>by rw[hQ] at b|-;obtain⟨f,g⟩:=OL b;grind
theorem P5 {b c e:Z} (f:d*2^a=z*b) (g:l*2^a=c*e):41*d<=64*l↔41*(z*b)<=64*(c*e):=by have h:(0:Z)<2^a:=lz ab;rw[<-f,<-g,<-jz,<-jz];simp_all
def adT (b:e3 l) (a:e3 d) (c:e3 z):AG ([l,d,z],())=Y (aB (ja [l,d,z]),()):=by unfold AG;refine ai (y:=l) rfl (ai (y:=z) rfl (ai (Ry b c) (ai (y:=d) rfl (ai (y:=d) rfl (ai (Ry a a) ?_)))));refine ai (aes (nq _ _) (nq _ _)) rfl
def a9.yD (c:a9) (a b:X):e3 (c.bj a b):=BH _ _
def lf (a b:X->Rat):X->Rat
 |0=>0
 |n+1=>lf a b n+a n*b n
def Ps {c d e f:X->Rat}:∀{n},(∀a,a<n->c a=d a/\e a=f a)->lf c e n=lf d f n
 |0,_=>rfl
 |n+1,b=>by rw[lf,lf,Ps λa g=>b a aa,(b n aa).1,(b n aa).2]
theorem Pv {d c:X->Rat}:∀{n},(∀a,a<n->c a=0)->lf d c n=0
 |0,_=>rfl
 |n+1,b=>by rw[lf,Pv λa e=>b a aa,b n aa];grind
theorem Pu (b c a:X->Rat) (d:Rat):∀n,lf (λe=>b e-d*c e) a n=lf b a n-d*lf c a n
 |0=>by simp only[lf];grind
 |n+1=>by simp only[lf];rw[Pu b c a d n];grind
theorem OT:∀(n:X) (g:bm (X->Rat)),g.length<n->∃c:X->Rat,(∃a,a<n/\c a≠0)/\∀b∈g,lf b c n=0
 |0,_,h=>absurd h aa
 |n+1,g,h=>by
  by_cases l:∀b∈g,b n=0
  ·refine⟨λa=>if a=n then 1 else 0,⟨n,aa,ac⟩,λb e=>?_⟩;rw[lf,l b e,Pv (λa k=>au aa)];grind
  obtain⟨d,e⟩:=Classical.not_forall.1 l;obtain⟨e,q⟩:=Classical.not_imp.1 e;obtain⟨i,j,rfl⟩:=wQ e;obtain⟨c,⟨a,k,p⟩,o⟩:=OT n ((i++j).map λb a=>b a-b n/d n*d a) (by simp at h|-;omega);have m:∀b:X->Rat,lf b (λa=>if a=n then-(lf d c n)/d n else c a) n=lf b c n:=λb=>Ps λa k=>⟨bn,au aa⟩;refine⟨λa=>if a=n then-(lf d c n)/d n else c a,⟨a,aa,?_⟩,λb f=>?_⟩
  ·show(if a=n then _ else c a)≠0;rw[au aa];exact p
  rw[lf,m,aw bn];have f:b=d\/b∈i++j:=(by simp only[hn,fC] at f|-;grind);rcases f with rfl|f
  ·grind
  have:=o _ (eQ.2 ⟨b,f,bn⟩);rw[Pu] at this;grind
def ia (a:X) (b:X->Rat):bm (Rat×(X->Rat))->Rat
 |[]=>0
 |r::c=>r.1*(lf r.2 b a*lf r.2 b a)+ia a b c
def kV (a:bm (Rat×(X->Rat))):X:=(a.filter λb=>br (0<b.1)).length
theorem K3 (c:Rat):0<=c*c:=by
 rcases Std.le_total (a:=(0:Rat)) (b:=c) with d|d
 ·exact anl d d
 have:0<=-c:=(by grind);have:=anl this this;grind
theorem RF {n:X} {x:X->Rat}:∀{R:bm (Rat×(X->Rat))},(∀r∈R,0<r.1->lf r.2 x n=0)->ia n x R<=0
 |[],_=>by simp only[ia];grind
 |r::R,a=>by
  have d:=RF (n:=n) (x:=x) (R:=R) λr c=>a r (by simp[c]);have e:r.1*(lf r.2 x n*lf r.2 x n)<=0:=by
   by_cases b:0<r.1
   ·rw[a r ac b];grind
   have:=anl (show 0<=-r.1 by grind) (K3 (lf r.2 x n));grind
  rw[ia];grind
theorem RE {n:X} {x:X->Rat}:∀{R:bm (Rat×(X->Rat))},(∀r∈R,¬0<r.1->lf r.2 x n=0)->0<=ia n x R/\(ia n x R<=0->∀r∈R,lf r.2 x n=0)
 |[],_=>by simp only[ia];exact⟨by grind,λ_ r d=>by simp at d⟩
 |r::R,e=>by
  obtain⟨l,f⟩:=RE (n:=n) (x:=x) (R:=R) λr d=>e r (by simp[d]);rw[ia];by_cases i:0<r.1
  ·have c:=anl (show 0<=r.1 by grind) (K3 (lf r.2 x n));refine⟨by grind,λk b a=>?_⟩;rcases fC.1 a with rfl|a
   ·have j:b.1*(lf b.2 x n*lf b.2 x n)=0:=(by grind);rcases sK.1 j with g|g
    ·grind
    rcases sK.1 g with h|h<;>exact h
   exact f (by grind) b a
  have c:=e r ac i;rw[c];refine⟨by grind,λk b a=>?_⟩;rcases fC.1 a with rfl|a
  ·exact c
  exact f (by grind) b a
def Le {n:X} {R S:bm (Rat×(X->Rat))} (h:R.length=n) (g:∀b,(∀a∈R,lf a.2 b n=0)->∀d,d<n->b d=0) (j:∀b,ia n b R=ia n b S):kV R<=kV S:=by
 refine Nat.le_of_not_lt λi=>?_;have q:(R.filter λa=>br (0<a.1)).length+(R.filter λa=>!br (0<a.1)).length=n:=by
  rw[<-h];clear i g j h
  induction R with
  |nil=>rfl
  |cons a R r=>
   rw[lZ,lZ];by_cases c:0<a.1
   ·simp[c];omega
   simp[c];omega
 obtain⟨b,⟨d,o,p⟩,k⟩:=OT n ((R.filter λa=>!br (0<a.1)).map (·.2)++(S.filter λa=>br (0<a.1)).map (·.2)) (by
  unfold kV at i;simp only[h5,eP];omega)
 have l:∀a∈R,¬0<a.1->lf a.2 b n=0:=λa e c=>k _ (hn.2 (.inl (eQ.2 ⟨a,hU.2 ⟨e,by simpa using c⟩,bn⟩)));have m:∀a∈S,0<a.1->lf a.2 b n=0:=λa e c=>k _ (hn.2 (.inr (eQ.2 ⟨a,hU.2 ⟨e,by simpa using c⟩,bn⟩)));have f:=RF m;rw[<-j b] at f;exact p (g b ((RE l).2 f) d o)
def eJ (a:X->Rat):aj5->Rat
 |[]=>0
 |i::b=>a i+eJ a b
theorem pJ {b c:X->Rat}:∀{a:aj5},(∀i∈a,b i=c i)->eJ b a=eJ c a
 |[],_=>rfl
 |i::a,d=>by rw[eJ,eJ,d i ac,pJ λf e=>d f (by simp[e])]
theorem Gf (b c:X->Rat):∀a,eJ (λi=>b i+c i) a=eJ b a+eJ c a
 |[]=>by simp only[eJ];grind
 |i::a=>by simp only[eJ];rw[Gf b c a];grind
theorem Gg (c:Rat) (b:X->Rat):∀a,eJ (λi=>c*b i) a=c*eJ b a
 |[]=>by simp only[eJ];grind
 |i::a=>by simp only[eJ];rw[Gg c b a];grind
theorem yK {b:X->Rat}:∀{a:aj5},(∀i∈a,b i=0)->eJ b a=0
 |[],_=>rfl
 |i::a,c=>by rw[eJ,c i ac,yK λe d=>c e (by simp[d])];grind
theorem aeZ (b:X->Rat) (a c:aj5):eJ b (a++c)=eJ b a+eJ b c:=by
 induction a with
 |nil=>simp only[eJ,ho];grind
 |cons e a d=>simp only[eJ,kF,d];grind
def eO (c:X) (b:aj5):aj5:=b.filter λa=>br (a≠c)
theorem mS:a∈eO b f↔a∈f/\a≠b:=by simp[eO]
def vZ {p:X} (a:f.Nodup):(eO p f).Nodup:=a.sublist uy
theorem GI (c:a∉f):eO a f=f:=mA.2 λe d=>akb λb=>c (b▸d)
def uj {p:X}:∀{a:aj5},a.Nodup->p∈a->(eO p a).length+1=a.length
 |[],_,c=>by simp at c
 |i::a,d,c=>by
  rw[jS] at d;by_cases b:i=p
  ·subst b;have:eO i (i::a)=eO i a:=(by simp[eO]);rw[this,GI d.1,iv]
  have:eO p (i::a)=i::eO p a:=(by simp[eO,b]);rw[this,iv,iv,uj d.2 (by simpa[Ne.symm b] using c)]
theorem qV (c:X->Rat) {b:X}:∀{a:aj5},a.Nodup->b∈a->eJ c a=c b+eJ c (eO b a)
 |[],_,e=>by simp at e
 |i::a,f,e=>by
  rw[jS] at f;by_cases d:i=b
  ·subst d;have:eO i (i::a)=eO i a:=(by simp[eO]);rw[this,GI f.1,eJ]
  have:eO b (i::a)=i::eO b a:=(by simp[eO,d]);rw[this,eJ,eJ,qV c f.2 (by simpa[Ne.symm d] using e)];grind
def ns (e:X->X->Rat) (c:aj5) (d:X->Rat):Rat:=eJ (λa=>d a*eJ (λb=>e a b*d b) c) c
def RD {c:X->X->Rat} (e:∀a∈f,∀b∈f,y a b=c a b) (d:X->Rat):ns y f d=ns c f d:=
 pJ λa g=>by rw[pJ λb h=>by rw[e a g b h]]
theorem KA (h:f.Nodup) (e:a∈f) (j:∀c∈f,∀b∈f,y c b=y b c) (d:X->Rat):ns y f d=y a a*(d a*d a)+2*(d a*eJ (λb=>y a b*d b) (eO a f))+ns y (eO a f) d:=by unfold ns;rw[qV _ h e,qV _ h e];have i:eJ (λc=>d c*eJ (λb=>y c b*d b) f) (eO a f)=eJ (λc=>d a*(y a c*d c)+d c*eJ (λb=>y c b*d b) (eO a f)) (eO a f):=(by refine pJ λc g=>?_;obtain⟨g,_⟩:=mS.1 g;rw[qV (λb=>y c b*d b) h e,j c g a e];grind);rw[i,Gf,Gg];grind
theorem Kz {a:X->X->Rat} (h:Rat) (e g:X->Rat) (d:X->Rat):ns (λb c=>a b c-h*(e b*g c)) f d=ns a f d-h*(eJ (λb=>e b*d b) f*eJ (λb=>g b*d b) f):=by
 unfold ns;have i:∀b,eJ (λc=>(a b c-h*(e b*g c))*d c) f=eJ (λc=>a b c*d c) f+(-h*e b)*eJ (λc=>g c*d c) f:=λb=>(by rw[<-Gg,<-Gf];exact pJ λc _=>by grind);have j:eJ (λb=>d b*eJ (λc=>(a b c-h*(e b*g c))*d c) f) f=eJ (λb=>d b*eJ (λc=>a b c*d c) f+(-h*eJ (λc=>g c*d c) f)*(e b*d b)) f:=
  pJ λb _=>by rw[i];grind
 rw[j,Gf,Gg];grind
def pI (b:X->Rat) (c:aj5) (a:X):Rat:=if a∈c then b a else 0
theorem rV (b c a:X->Rat) (d:Rat):∀n,lf (λe=>b e+d*c e) a n=lf b a n+d*lf c a n
 |0=>by simp only[lf];grind
 |n+1=>by simp only[lf];rw[rV b c a d n];grind
theorem Jv {e:X->Rat} {a:X} (d:Rat):∀{n},lf (λf=>if f=a then d else 0) e n=if a<n then d*e a else 0
 |0=>by simp[lf]
 |n+1=>by
  rw[lf,Jv (n:=n)];by_cases c:a<n
  ·rw[aw c,au aa,aw aa];grind
  rw[au c];by_cases b:n=a
  ·subst b;rw[aw bn,aw aa];grind
  rw[au b,au aa];grind
theorem vK {c i:X->Rat} {h:X}:∀{b:aj5},b.Nodup->(∀a∈b,a<h)->lf (pI c b) i h=eJ (λa=>c a*i a) b
 |[],_,_=>by
  rw[eJ];have:∀f,lf (pI c []) i f=0:=λf=>by
   induction f with
   |zero=>rfl
   |succ f m=>rw[lf,m];simp[pI];grind
  exact this h
 |p::b,g,j=>by
  rw[jS] at g;have k:pI c (p::b)=λa=>(if a=p then c p else 0)+1*pI c b a:=by
   funext a;unfold pI;by_cases d:a=p
   ·subst d;rw[aw ac,aw bn,au g.1];grind
   by_cases e:a∈b
   ·rw[aw (by simp[e]),au d,aw e];grind
   rw[au (by simp[d,e]),au d,au e];grind
  rw[k,rV,Jv,aw (j p ac),vK g.2 λa l=>j a (by simp[l]),eJ];grind
inductive m2:(X->X->Rat)->aj5->bm (Rat×(X->Rat))->Prop
 |done {a:X->X->Rat} {l:aj5} (h:∀i∈l,∀j∈l,a i j=0):m2 a l (l.map λi=>(0,λj=>if j=i then 1 else 0))
 |one {a b:X->X->Rat} {l:aj5} {R:bm (Rat×(X->Rat))} {p:X} (Yd:p∈l) (h:a p p≠0) (E4:∀i∈eO p l,∀j∈eO p l,b i j=a i j-1/a p p*(a i p*a p j)) (X5:m2 b (eO p l) R):m2 a l ((1/a p p,pI (a p) l)::R)
 |two {a b:X->X->Rat} {l:aj5} {R:bm (Rat×(X->Rat))} {p q:X} (Yd:p∈l) (ag7:q∈l) (ag6:p≠q) (h:a p q≠0) (AX:a p p=0) (OO:a q q=0) (E4:∀i∈eO q (eO p l),∀j∈eO q (eO p l),b i j=a i j-1/a p q*(a i p*a q j)-1/a p q*(a i q*a p j)) (X5:m2 b (eO q (eO p l)) R):m2 a l ((1/(2*a p q),λi=>pI (a p) l i+1*pI (a q) l i)::(-(1/(2*a p q)),λi=>pI (a p) l i+-1*pI (a q) l i)::R)
theorem m2.ok (q:m2 y f T) {n:X} (j:f.Nodup) (o:∀c∈f,c<n) (l:∀c∈f,∀b∈f,y c b=y b c):T.length=f.length/\∀g,ia n g T=ns y f g/\((∀B∈T,lf B.2 g n=0)->∀c∈f,g c=0):=by
 induction q with
 |@done y f q=>
  refine⟨ac,λg=>⟨?_,λr c h=>?_⟩⟩
  ·have t:ns y f g=0:=yK λc h=>(by rw[yK λb i=>by rw[q c h b i];grind];grind);rw[t];clear t q j l o
   induction f with
   |nil=>rfl
   |cons c f A=>rw[gW,ia,A];grind
  have:=r _ (eQ.2 ⟨c,h,bn⟩);rw[Jv,aw (o c h)] at this;grind
 |@one y L f T d m q u P A=>
  have k:∀c∈eO d f,c∈f:=λc h=>(mS.1 h).1;obtain⟨i1,F⟩:=A (vZ j) (λc h=>o c (k c h)) λc h b i=>(by rw[u c h b i,u b i c h,l c (k c h) b (k b i),l c (k c h) d m,l b (k b i) d m];grind);refine⟨by rw[iv,i1,uj j m],λg=>?_⟩;obtain⟨G,H⟩:=F g;have ao:eJ (λb=>y d b*g b) f=y d d*g d+eJ (λb=>y d b*g b) (eO d f):=qV _ j m;have C:eJ (λb=>y b d*g b) (eO d f)=eJ (λb=>y d b*g b) (eO d f):=pJ λb i=>(by rw[l b (k b i) d m]);constructor
  ·rw[ia,G,vK j o,KA j m l,RD u,Kz (1/y d d) (λc=>y c d) (λb=>y d b)];rw[C,ao];generalize eJ (λb=>y d b*g b) (eO d f)=am;grind
  intro r;have v:=H λB E=>r B (by simp[E]);have t:=r _ (js ..);rw[vK j o,ao,yK λb i=>by rw[v b i];grind] at t;intro c h;by_cases s:c=d
  ·subst s;rcases sK.1 (show y c c*g c=0 by grind) with D|D
   ·exact absurd D q
   exact D
  exact v c (mS.2 ⟨h,s⟩)
 |@two y L f T d e m x Q q t J u P A=>
  have z:e∈eO d f:=mS.2 ⟨x,λs=>Q s.symm⟩;have k:∀c∈eO e (eO d f),c∈f:=λc h=>(mS.1 (mS.1 h).1).1;have K:∀c∈eO d f,c∈f:=λc h=>(mS.1 h).1;have w:=vZ (p:=d) j;obtain⟨i1,F⟩:=A (vZ w) (λc h=>o c (k c h)) λc h b i=>(by rw[u c h b i,u b i c h,l c (k c h) b (k b i),l c (k c h) d m,l b (k b i) d m,l c (k c h) e x,l b (k b i) e x];grind);have av:=uj j m;have a0:=uj w z;refine⟨by rw[iv,iv,i1];omega,λg=>?_⟩;obtain⟨G,H⟩:=F g;have R:y e d=y d e:=l e x d m;have I:eJ (λb=>y d b*g b) f=y d e*g e+eJ (λb=>y d b*g b) (eO e (eO d f)):=(by rw[qV _ j m,qV _ w z,t];grind);have f2:eJ (λb=>y e b*g b) f=y d e*g d+eJ (λb=>y e b*g b) (eO e (eO d f)):=(by rw[qV _ j m,qV _ w z,J,R];grind);have M:eJ (λb=>y d b*g b) (eO d f)=y d e*g e+eJ (λb=>y d b*g b) (eO e (eO d f)):=qV _ w z;have N:eJ (λb=>y b d*g b) (eO e (eO d f))=eJ (λb=>y d b*g b) (eO e (eO d f)):=pJ λb i=>(by rw[l b (k b i) d m]);have O:eJ (λb=>y b e*g b) (eO e (eO d f))=eJ (λb=>y e b*g b) (eO e (eO d f)):=pJ λb i=>(by rw[l b (k b i) e x]);constructor
  ·rw[ia,ia,G,rV,rV,vK j o,vK j o,KA j m l,KA w z (λc h b i=>l c (K c h) b (K b i)),RD u];rw[Kz (a:=λc b=>y c b-1/y d e*(y c d*y e b)) (1/y d e) (λc=>y c e) (λb=>y d b),Kz (1/y d e) (λc=>y c d) (λb=>y e b)];rw[I,f2,M,N,O,t,J];generalize eJ (λb=>y d b*g b) (eO e (eO d f))=am;generalize eJ (λb=>y e b*g b) (eO e (eO d f))=an;generalize ns y (eO e (eO d f)) g=ap;grind
  intro r;have v:=H λB E=>r B (by simp[E]);have S:=r _ (js ..);have U:=r _ (gC _ (js ..));rw[rV,vK j o,vK j o,I,f2,yK (λb i=>by rw[v b i];grind),yK (λb i=>by rw[v b i];grind)] at S U;have V:y d e*g d=0:=(by grind);have ad:y d e*g e=0:=(by grind);intro c h;by_cases s:c=d
  ·subst s;exact(sK.1 V).resolve_left q
  by_cases C:c=e
  ·subst C;exact(sK.1 ad).resolve_left q
  exact v c (mS.2 ⟨mS.2 ⟨h,s⟩,C⟩)
theorem OK {e:X->Z} {b:X}:∀{d:aj5} {a:Z×aj1},a.2≠Y b->(hQ e b d a).2≠Y b
 |[],_,c=>c
 |i::d,a,c=>by rw[hQ];refine OK ?_;grind
def ur (c b:aj5):Prop:=b=[]\/(∃a,b=[a]/\a∈c)\/∃a d,b=[a,d]/\a∈c/\d∈c/\a≠d
theorem M9 {c:a9}:∀{g d:aj5},(∀p∈g,p∈c.rows.take c.full)->c.iO g=Y d->ur (c.rows.take c.full) d
 |[],d,_,b=>by rw[a9.iO] at b;cases b;exact .inl bn
 |p::g,d,h,b=>by
  have f:=h p ac;rw[a9.iO] at b;split at b
  ·cases b
  split at b
  ·cases b;exact .inr (.inl ⟨p,bn,f⟩)
  split at b
  ·cases b;exact .inr (.inl ⟨p,bn,f⟩)
  rename_i i k;split at b
  ·exact M9 (λl m=>h l (by grind)) b
  rename_i e;have e:=apv.1 e;split at b
  ·cases b
  split at b
  ·cases b;exact .inr (.inl ⟨p,bn,f⟩)
  split at b
  ·cases b;exact .inr (.inl ⟨i,bn,e⟩)
  cases b;refine .inr (.inr ⟨p,i,bn,f,e,λj=>?_⟩);subst j;exact OK (a:=(0,bo)) ac k
structure lV (x:a9):Prop where
 okd:x.okd
 nd:x.rows.Nodup
 full:x.full<=x.rows.length
theorem ER:∀{S:aj5},S.Nodup->f.Nodup->(∀a∈f,a∈S)->(S.filter λb=>br (b∉f)).length+f.length=S.length:=by
 induction f with
 |nil=>simp_all
 |cons a f i=>
  intro S d c e;rw[jS] at c;have k:=i (S:=eO a S) (vZ d) c.2 λj h=>mS.2 ⟨e j (by grind),λg=>c.1 (g▸h)⟩;have l:=uj d (e a ac);have m:(eO a S).filter (λb=>br (b∉f))=S.filter λb=>br (b∉a::f):=(by unfold eO;rw[zb];grind);grind
theorem lV.elim {a:a9} (d:lV a) {b:aj5} (h:ur (a.rows.take a.full) b):lV (a.elim b) where
 okd:=λg _ l _=>qk _ _
 nd:=d.nd.sublist uy
 full:=by
  show a.full-b.length<=(a.rows.filter λg=>br (g∉b)).length;have k:∀{c},c∈a.rows.take a.full->c∈a.rows:=λe=>uA e;have f:b.Nodup/\∀c∈b,c∈a.rows:=by
   rcases h with rfl|⟨c,rfl,e⟩|⟨c,m,rfl,e,j,i⟩
   ·grind
   ·grind
   grind
  have:=ER d.nd f.1 f.2;have:=d.full;omega
theorem yI {b:a9} (d:b.choose=Y f) (e:0<f.length):a9.run (a+1) b=if(b.dd f).fin then(a9.run a (b.elim f)).map (λc=>(c.1,b.dd f::c.2)) else bo:=by grind [a9.run]
theorem Ge {b:a9} (c:b.choose=bo):a9.run (a+1) b=bo:=by rw[a9.run,c]
theorem BJ {b:a9} (c:b.choose=Y []):a9.run (a+1) b=Y (b,[]):=by rw[a9.run,c]
def CO {a:a9} (b:a.choose=Y f):ur (a.rows.take a.full) f:=M9 (λd c=>c) b
theorem ur.props (b:ur Q f):f.Nodup/\∀a∈f,a∈Q:=by
 rcases b with rfl|⟨a,rfl,c⟩|⟨a,g,rfl,c,e,d⟩
 ·grind
 ·grind
 grind
def Xt (b:∀e∈f,e∉Q):(f.filter λd=>br (d∉Q))=f:=
 mA.2 λa c=>akb (b a c)
theorem lV.WN {a:a9} (e:lV a) (i:ur (a.rows.take a.full) f):(a.elim f).rows.take (a.elim f).full=((a.rows.take a.full).filter λb=>br (b∉f))/\(a.elim f).rows.drop (a.elim f).full=a.rows.drop a.full:=by obtain⟨l,g⟩:=i.props;have c:=e.nd;rw[<-jU a.full a.rows,jt] at c;have k:=ER c.1 l g;have j:=e.full;rw[gn,hN j] at k;have ao:(a.elim f).full=((a.rows.take a.full).filter λb=>br (b∉f)).length:=(by show a.full-f.length=_;omega);have o:(a.elim f).rows=((a.rows.take a.full).filter λb=>br (b∉f))++a.rows.drop a.full:=(by show(a.rows.filter λb=>br (b∉f))=_;have h:(a.rows.drop a.full).filter (λb=>br (b∉f))=a.rows.drop a.full:=Xt λd m n=>c.2.2 d (g d n) d m bn;exact(b6 (amn λb=>br (b∉f)) (jU a.full a.rows).symm).trans ((o5 ..).trans (by rw[h])));grind
theorem adp (d:Q.Nodup) (c:f.Nodup) (e:∀b∈f,b∈Q):(f++Q.filter λa=>br (a∉f)).Perm Q:=by grind
structure wY (S:aj5) (q:aP):Prop where
 nd:q.rows.Nodup
 sub:∀i∈q.rows,i∈S
 len:q.l.length=q.aY.length
 at1:q.aY.length=1\/q.aY.length=2
 dl:q.d.length=2*q.aY.length-1
 fin:q.fin
def lV.RB {a:a9} (h:lV a) (c:ur (a.rows.take a.full) f) (e:0<f.length) (j:(a.dd f).fin) {S:aj5} (i:∀d∈a.rows,d∈S):wY S (a.dd f) where
 nd:=h.nd.sublist uy
 sub:=λd k=>i d (hU.1 k).1
 len:=by rcases c with rfl|⟨b,rfl,_⟩|⟨b,g,rfl,_⟩<;>rfl
 at1:=by
  rcases c with rfl|⟨b,rfl,_⟩|⟨b,g,rfl,_⟩
  ·cases e
  ·exact .inl bn
  exact .inr bn
 dl:=by
  rcases c with rfl|⟨b,rfl,_⟩|⟨b,g,rfl,_⟩
  ·cases e
  ·rfl
  rfl
 fin:=j
structure G6 (x y:a9) (ps:bm aP):Prop where
 w:lV y
 rest:y.rows.drop y.full=x.rows.drop x.full
 perm:(ps.flatMap aP.aY++y.rows.take y.full).Perm (x.rows.take x.full)
 dd:∀q∈ps,wY x.rows q
 sub:∀i∈y.rows,i∈x.rows
 done:y.choose=Y []
theorem Sp:∀{n:X} {a m:a9} {k:bm aP},lV a->a.full<n->a9.run n a=Y (m,k)->G6 a m k
 |0,a,m,k,_,v,_=>by omega
 |n+1,a,m,k,g,v,d=>by
  match hc:a.choose with
  |none=>grind [Ge]
  |some []=>
   rw[BJ hc] at d;cases d;exact⟨g,bn,amD _,λl f=>(by cases f),λb c=>c,hc⟩
  |some (
   j::h)=>
   rw[yI hc ac] at d;split at d
   case isFalse=>cases d
   rename_i u;have i:=CO hc;obtain⟨x,q⟩:=i.props;cases p:a9.run n (a.elim (j::h)) with
   |none=>grind
   |some l=>
    obtain⟨s,y⟩:=l;rw[p] at d;cases d;have z:0<a.full:=(by have:=apw (q j ac);grind);have e:=Sp (g.elim i) (aa:a.full-(h.length+1)<n) p;obtain⟨ao,t⟩:=g.WN i;have r:∀b∈(a.elim (j::h)).rows,b∈a.rows:=λb c=>(hU.1 c).1;refine⟨e.w,e.rest.trans t,?_,?_,λb c=>r b (e.sub b c),e.done⟩
    ·have o:=e.perm;rw[ao] at o;show((j::h)++y.flatMap aP.aY++s.rows.take s.full).Perm _;rw[kZ];exact(am0 _ o).trans (adp (g.nd.sublist (amC ..)) x q)
    intro l f;rcases fC.1 f with rfl|f
    ·exact g.RB i ac u λb c=>c
    have:=e.dd l f;exact{this with sub:=λb c=>r b (this.sub b c)}
theorem V0 {c:a9} (i:c.full=c.rows.length):∀{L:aj5},(∀p∈L,p∈c.rows)->c.iO L=Y []->L=[]
 |[],_,_=>rfl
 |p::L,k,d=>by
  exfalso;rw[a9.iO] at d;split at d
  ·cases d
  split at d
  ·cases d
  split at d
  ·cases d
  rename_i f h;have m:f∈c.rows.take c.full:=by
   rw[i,hM];have:∀{l:aj5} {a:Z×aj1},(∀b,a.2=Y b->b∈c.rows)->(∀b∈l,b∈c.rows)->∀b,(hQ (λb=>c.av b p) p l a).2=Y b->b∈c.rows:=by
    intro l
    induction l with
    |nil=>intro a g _ b e;exact g b e
    |cons j l n=>
     grind [hQ]
   exact this (l:=c.rows) (a:=(0,bo)) ac (λb e=>e) f h
  grind
theorem G6.whole {b a:a9} {h:bm aP} (c:G6 b a h) (j:lV b) (g:b.full=b.rows.length):a.rows=[]/\a.full=0:=by have d:a.rows.drop a.full=[]:=(by rw[c.rest,g,List.drop_length]);have e:a.full=a.rows.length:=(by have:=List.drop_eq_nil_iff.1 d;have:=c.w.full;omega);have i:=V0 e (L:=a.rows.take a.full) (λk f=>uA f) c.done;grind
theorem Yi (j:c.length<=1000000) (g:c[a]?=Y d) (k:∀b,b<a->c[b]?≠Y d):Ac (c,d,())=Y ((a:Z),()):=by
 obtain⟨l,i⟩:=akU.1 g;unfold Ac;refine bO.1 ?_;dsimp only;refine bE (P:=λb=>b=.inr ((a:Z),())) ?_ (by grind [bu]);refine bQ (a+1) (λe h=>e<=a/\h=((e:Z),())) ⟨Nat.zero_le _,bn⟩ ?_ ?_
 ·rintro e _ m ⟨n,rfl⟩;dsimp only;rw[aZ (aF (show(e:Z)<al c by grind)),bc aa];refine bz (y:=c[e]'(by omega)) (eR aa) ?_
  rw[fY,c3];refine akP (λf=>?_) (λf=>?_)
  ·refine bu.2 ?_;rcases cT e a with b|b
   ·grind
   grind
  grind [bu,cn]
 omega
section
def iq (l:bm eD) (t:X):X:=cG l (t+1)-cG l t
def ip (l:bm eD) (t:X):X:=(ie l (t:Z)).length
def lP (l:bm eD) (t a:X):X:=((ie l (t:Z)).getD a 0).toNat
def gF (l:bm eD) (t:X):Z:=((l[t]?).map λ(a:eD)=>a.2.2.2.1).getD 0
def E9 (l:bm eD) (t b:X):Prop:=∃a,iq l t<=a/\a<ip l t/\lP l t a=b
structure jN (n:X) (l:bm eD) (t:X):Prop where
 lt:t<l.length
 g:l[t]?=Y ((cG l t:Z),(cG l (t+1):Z),ie l (t:Z),gF l t,())
 HE:cG l t<cG l (t+1)
 HF:cG l (t+1)<=n
 Z9:iq l t<=ip l t
 GY:ip l t<=n
 get:∀i,i<ip l t->(ie l (t:Z))[i]?=Y ((lP l t i:X):Z)
 ro:∀i,i<iq l t->lP l t i=cG l t+i
 KC:∀i,iq l t<=i->i<ip l t->cG l (t+1)<=lP l t i
 BF:∀i,i<ip l t->lP l t i<n
 ad5:∀i j,i<j->j<ip l t->lP l t i<lP l t j
theorem jN.of {G:et} {l:bm eD} {n t:X} (k:iu G l) (z:G.length=n) (c:t<l.length):jN n l t:=by
 obtain⟨j,m,A,_⟩:=k;obtain⟨v,w,h,x⟩:=(j.1 t c).at c;have e:=m t c;have g:ie l (t:Z)=l[t].2.2.1:=yF c;have B:=e.asc aa aa;have r:(l[t].2.1-l[t].1).toNat=iq l t:=(by grind [iq]);have q:iq l t<=ip l t:=(by unfold ip;rw[g,<-r];exact e.1);have o:∀a,(b:a<l[t].2.2.1.length)->(a<iq l t->l[t].2.2.1[a]=(cG l t:Z)+a)/\(iq l t<=a->(cG l (t+1):Z)<=l[t].2.2.1[a]/\l[t].2.2.1[a]<(n:Z)):=λa b=>(by have f:=e.2 a (eU _) b b;omega);have F:∀a,(b:a<l[t].2.2.1.length)->0<=l[t].2.2.1[a]/\l[t].2.2.1[a]<(n:Z):=λa b=>(by obtain⟨f,i⟩:=o a b;omega);have p:∀a,a<ip l t->(ie l (t:Z))[a]?=Y ((lP l t a:X):Z):=λa b=>(by grind [bX,lP,ip]);have H:∀a,(b:a<l[t].2.2.1.length)->((lP l t a:X):Z)=l[t].2.2.1[a]:=λa b=>(by grind [akS,bX,ip]);have E:∀a,a<ip l t->a<l[t].2.2.1.length:=λa b=>(by grind);have s:∀a d,a<d->d<ip l t->lP l t a<lP l t d:=λa d C D=>(by grind [cA]);have u:∀a,a<ip l t->lP l t a<n:=λa b=>(by grind);refine⟨c,?_,h,aa,q,?_,p,λa b=>?_,λa f i=>?_,u,s⟩
 ·rw[bi c,g];have y:gF l t=l[t].2.2.2.1:=(by simp_all [bi,gF]);grind
 ·have:=JS ((bJ (ip l t)).map (lP l t)) n ?_ ?_
  ·simp_all
  ·rw[ou];refine sw ?_ an6;grind
  simp_all
 ·grind
 grind
section
variable {n:X} {l:bm eD} {t:X}
theorem jN.own (a:jN n l t):cG l t+iq l t=cG l (t+1):=by have:=a.HE;grind [iq]
theorem jN.pos (d:jN n l t) (g:(a:Z)∈ie l (t:Z)):∃b,b<ip l t/\lP l t b=a:=by obtain⟨b,c,f⟩:=g1.1 g;have e:=d.get b c;rw[bi c,f] at e;exact⟨b,c,by grind⟩
end
section
variable {G:et} {l:bm eD} {n:X}
theorem VN (d:iu G l) (g:b<=a) (h:a<=l.length):cG l b<=cG l a:=by
 induction a with
 |zero=>grind
 |succ a e=>
  rcases cT a b with c|c
  ·grind
  have:=e c aa;obtain⟨_,_,f,_⟩:=(d.1.1 a aa).at aa;omega
theorem FSq (b:iu G l) (s:G.length=n) {t:X} (d:t<l.length):(gF l t=-1/\∀e,¬E9 l t e)\/∃a:X,gF l t=(a:Z)/\t<a/\a<l.length/\∀e,E9 l t e->(e:Z)∈ie l (a:Z):=by
 have f:=jN.of b s d;have k:gF l t=l[t].2.2.2.1:=(by grind [bX,gF]);have v:ie l (t:Z)=l[t].2.2.1:=yF d;obtain⟨w,x,y,z⟩:=(b.1.1 t d).at d;have u:(l[t].2.1-l[t].1).toNat=iq l t:=(by grind [iq]);have C:=b.parent d;rcases b.2.2.1 t d with⟨h,c⟩|⟨h,c,A⟩
 ·refine .inl ⟨by rw[k,c],?_⟩;rintro e ⟨j,ay,p,_⟩;grind [ip]
 right;simp only[u] at h c;have i:iq l t<ip l t:=(by grind [ip]);have g:=f.get (iq l t) i;rw[v,bi h] at g;have g:=gq g;rw[g,fU] at c;have E:=f.BF _ i;have D:=f.KC _ (bd _) i;obtain⟨a,m,q,r⟩:=CL b.1 (aa:lP l t (iq l t)<G.length);rw[wO.last b.1 (⟨m,q,r⟩:wO l _ a)] at c;refine⟨a,by rw[k,c],?_,m,?_⟩
 ·rcases cT t a with o|o
  ·exact o
  have:=VN b (aa:a+1<=t+1) aa;omega
 rintro e ⟨j,ay,p,rfl⟩;have B:j<l[t].2.2.1.length:=(by grind [ip]);have F:=f.get j p;grind
end
end
section
def Fe:X->X
 |0=>0
 |t+1=>Fe t+(Fe t+5)
def e7 (l:bm eD) (t b:X):aj5:=(bJ t).filter λa=>br (gF l a=(b:Z))
section
variable {A:X->X->ez} {n:X} {l:bm eD} {B:X->X->X->Z} {t:X}
end
end
section
def Oq {e:Type} {l:bm j} {b c:j->bm e} (d:∀a∈l,b a=c a):l.flatMap b=l.flatMap c:=by rw[apx,apx,iJ d]
def yq:cW (Y 0):=λb a=>by cases a;exact(by decide:aO 0<=131072)
def hP:a9:=⟨[],0,λ_ _=>Y 0⟩
def a9.plus (c d:a9):a9:=⟨c.rows,c.full,λa b=>if a∈d.rows/\b∈d.rows then cR (c.s a b) (d.s a b) else c.s a b⟩
def mn (l:bm eD) (a:X):aj5:=(ako (iq l a) (ip l a-iq l a)).map (lP l a)
def qm (l:bm eD) (b:X->a9) (a:X):aj5:=((e7 l a a).flatMap λc=>(b c).rows.take (b c).full)++ako (cG l a) (iq l a)
def zz (d:X->X->ez) (l:bm eD) (c a b:X):ez:=if cG l c<=min a b/\min a b<cG l (c+1) then d a b else Y 0
def mH (c:X->X->ez) (l:bm eD) (b:X->a9) (a:X):a9:=⟨qm l b a++mn l a,(qm l b a).length,zz c l a⟩
def iN (c:X->X->ez) (l:bm eD) (b:X->a9) (a:X):a9:=(e7 l a a).foldl (λe d=>e.plus (b d)) (mH c l b a)
def FU (b:X->a9):∀(d:aj5) (a:a9),(d.foldl (λa c=>a.plus (b c)) a).rows=a.rows/\(d.foldl (λa c=>a.plus (b c)) a).full=a.full
 |[],_=>⟨bn,bn⟩
 |c::d,a=>FU b d (a.plus (b c))
theorem Kv (e:X->a9):∀(f:aj5) (a:a9),(∀b d,cW (a.s b d))->∀b d,cW ((f.foldl (λa c=>a.plus (e c)) a).s b d)
 |[],_,g=>g
 |c::f,a,g=>Kv e f (a.plus (e c)) λb d=>by show cW (if _ then _ else _);grind [qk]
def jb (b:X->X->ez) (l:bm eD):X->bv (bm a9×bm aP)
 |0=>Y ([],[])
 |t+1=>(jb b l t).bind λa=>(a9.run ((iN b l (λc=>a.1.getD c hP) t).full+1) (iN b l (λc=>a.1.getD c hP) t)).map λd=>(a.1++[d.1],a.2++d.2)
def qj (l:bm eD) (b:X):aj5:=(bJ b).filter λa=>br (gF l a=-1\/(b:Z)<=gF l a)
def qH (a:X->a9) (b:X):aj5:=(a b).rows.take (a b).full
structure lY (l:bm eD) (n t:X) (L:X->a9) (ps:bm aP):Prop where
 w:∀c,c<t->lV (L c)
 rest:∀c,c<t->(L c).rows.drop (L c).full=mn l c
 perm:(ps.flatMap aP.aY++(qj l t).flatMap (qH L)).Perm (bJ (cG l t))
 root:∀c,c<t->gF l c=-1->(L c).rows=[]/\(L c).full=0
 dd:∀q∈ps,wY (bJ n) q
 BF:∀c,c<t->∀i∈(L c).rows,i<n
section
variable {G:et} {l:bm eD} {n:X}
theorem yi:b∈mn l a↔E9 l a b:=by unfold mn E9;grind
theorem Ft:a∈e7 l g b↔a<g/\gF l a=(b:Z):=by unfold e7;grind
theorem UZ (a:X):(e7 l a a++(bJ a).filter λb=>br (gF l b=-1\/(a:Z)<gF l b)).Perm (qj l a):=by have e:=List.filter_append_perm (λb=>br (gF l b=(a:Z))) (qj l a);have ao:(qj l a).filter (λb=>br (gF l b=(a:Z)))=e7 l a a:=(by unfold qj e7;rw[zb];refine p0 λb _=>?_;grind);have d:(qj l a).filter (λc=>!br (gF l c=(a:Z)))=(bJ a).filter λb=>br (gF l b=-1\/(a:Z)<gF l b):=(by unfold qj;rw[zb];refine p0 λb _=>?_;rw[wK];simp only[bk,uo,aon,akt];omega);grind
theorem UY (c:gF l a=-1\/(a:Z)<gF l a):qj l (a+1)=((bJ a).filter λb=>br (gF l b=-1\/(a:Z)<gF l b))++[a]:=by grind [akD,alB,akc,akb,decide,gF,qj]
def aeO (e:jN n l a):(mn l a).Nodup:=by unfold mn anm;rw[ou];have d:=List.pairwise_lt_range' (s:=iq l a) (n:=ip l a-iq l a);refine(sw ?_ d);intro b c f h g;rw[List.mem_range'_1] at f h;have:=e.ad5 b c g aa;omega
theorem lY.CG {b:X->a9} {d:bm aP} (h:lY l n a b d) (f:jN n l a):((d.flatMap aP.aY++(((bJ a).filter λc=>br (gF l c=-1\/(a:Z)<gF l c)).flatMap (qH b)))++qm l b a).Perm (bJ (cG l (a+1))):=by
 have i:=h.perm;have e:=(UZ (l:=l) a).flatMap_right (qH b);rw[nE] at e;have g:bJ (cG l (a+1))=bJ (cG l a)++ako (cG l a) (iq l a):=(by have:=f.own;rw[aoo,aoo,<-f.own];have:=List.range'_append (s:=0) (m:=cG l a) (n:=iq l a) (step:=1);grind);rw[g];have j:(d.flatMap aP.aY++(((bJ a).filter λc=>br (gF l c=-1\/(a:Z)<gF l c)).flatMap (qH b)++(e7 l a a).flatMap (qH b))).Perm (bJ (cG l a)):=
  (am0 _ (List.perm_append_comm.trans e)).trans i
 unfold qm;rw[<-kZ];refine List.Perm.append_right _ ?_;rw[kZ];exact j
theorem lY.zA {c:X->X->ez} (w:∀d g,cW (c d g)) {b:X->a9} {r:bm aP} (k:lY l n a b r) (h:jN n l a):lV (iN c l b a):=by
 have i:=k.CG h;have p:=i.nodup_iff.2 sE;obtain⟨ao,j⟩:=FU b (e7 l a a) (mH c l b a);refine⟨λd _ g _=>Kv b _ _ (λd g=>?_) d g,?_,?_⟩
 ·show cW (if _ then _ else _);split
  ·grind
  exact yq
 ·show((e7 l a a).foldl (λf e=>f.plus (b e)) (mH c l b a)).rows.Nodup;rw[ao];refine jt.2 ⟨(jt.1 p).2.1,aeO h,λs m t o u=>?_⟩;have v:=gD.1 (i.mem_iff.1 (k1 _ m));obtain⟨d,i1,q,x⟩:=yi.1 o;have:=h.KC d i1 q;omega
 show((e7 l a a).foldl (λf e=>f.plus (b e)) (mH c l b a)).full<=((e7 l a a).foldl (λf e=>f.plus (b e)) (mH c l b a)).rows.length;rw[ao,j];show(qm l b a).length<=(qm l b a++mn l a).length;grind
def zB (c:X->X->ez) (b:X->a9) (a:X):(iN c l b a).rows=qm l b a++mn l a/\(iN c l b a).full=(qm l b a).length:=FU b (e7 l a a) (mH c l b a)
def lY.CH (f:X->X->ez) {c:X->a9} {j:bm aP} (h:lY l n b c j) (d:jN n l b) (g:a∈(iN f l c b).rows):a<n:=by
 rw[(zB f c b).1,hn] at g;have:=d.HF;rcases g with e|e
 ·have k:=gD.1 ((h.CG d).mem_iff.1 (k1 _ e));omega
 obtain⟨a,i1,i,m⟩:=yi.1 e;have:=d.BF a i;omega
theorem lY.MN (b:X->X->ez) (g:∀f i,cW (b f i)) {c:X->a9} {j:bm aP} (d:lY l n a c j) (e:jN n l a):(iN b l c a).rows.length<=n:=by have:=(d.zA g e).nd.length_le_of_subset (l₂:=bJ n) λf h=>gD.2 (d.CH b e h);grind
theorem lY.child (h:X->X->ez) (k:iu G l) (j:G.length=n) (s:a<l.length) {c:X->a9} {v:bm aP} (q:lY l n a c v) (r:b∈e7 l a a) (m:g∈(c b).rows):g∈(iN h l c a).rows:=by
 have i:=jN.of k j s;obtain⟨p,x⟩:=Ft.1 r;rw[(zB h c a).1];unfold qm;rw[<-jU (c b).full (c b).rows,hn] at m;rcases m with d|d
 ·grind
 rw[q.rest b p] at d;have d:=yi.1 d;rcases FSq k j (aa:b<l.length) with⟨y,_⟩|⟨o,z,A,B,w⟩
 ·omega
 obtain rfl:o=a:=aa;obtain⟨f,t,u⟩:=i.pos (w g d);rcases cT f (iq l o) with e|e
 ·have:=i.ro f e;grind
 exact k1 _ (yi.2 ⟨f,e,t,u⟩)
theorem xT {h:X->X->ez} (C:∀k M,cW (h k M)) (y:iu G l) (x:G.length=n):∀{t:X},t<=l.length->∀{o:bm a9} {u:bm aP},jb h l t=Y (o,u)->o.length=t/\lY l n t (λa=>o.getD a hP) u
 |0,_,o,u,e=>by rw[jb] at e;cases e;refine⟨bn,⟨λa g=>by omega,λa g=>by omega,?_,λa g=>by omega,λb A=>(by cases A),λa g=>by omega⟩⟩;show List.Perm [] (bJ (cG l 0));have:cG l 0=0:=rfl;grind
 |t+1,R,o,u,e=>by
  rw[jb] at e;cases D:jb h l t with
  |none=>grind
  |some N=>
   obtain⟨c,S⟩:=N;obtain⟨i1,f⟩:=xT C y x aa D;have p:=jN.of y x (aa:t<l.length);rw[D] at e;dsimp only[bK] at e;have z:=f.zA C p;generalize s:iN h l (λa=>c.getD a hP) t=m at e;rw[s] at z;cases E:a9.run (m.full+1) m with
   |none=>grind
   |some b=>
    obtain⟨d,T⟩:=b;rw[E] at e;cases e;have j:=Sp z (qa _) E;have L:=(zB h (λa=>c.getD a hP) t (l:=l));rw[s] at L;have K:m.rows.take m.full=qm l (λa=>c.getD a hP) t:=(by grind);have H:m.rows.drop m.full=mn l t:=(by grind);have q:∀a,a<t->(c++[d]).getD a hP=c.getD a hP:=λa g=>(by rw[k0,k0,rf aa]);have r:(c++[d]).getD t hP=d:=(by grind);have Q:=FSq y x (aa:t<l.length);refine⟨by grind,⟨?_,?_,?_,?_,?_,?_⟩⟩
    ·intro a g;dsimp only;rcases cn a t with b|b
     ·rw[q a b];exact f.w a b
     obtain rfl:a=t:=aa;rw[r];exact j.w
    ·intro a g;dsimp only;rcases cn a t with b|b
     ·rw[q a b];exact f.rest a b
     obtain rfl:a=t:=aa;rw[r,j.rest,H]
    ·rw[UY (by grind),nE,nE];have ao:((bJ t).filter λa=>br (gF l a=-1\/(t:Z)<gF l a)).flatMap (qH λa=>(c++[d]).getD a hP)=((bJ t).filter λa=>br (gF l a=-1\/(t:Z)<gF l a)).flatMap (qH λa=>c.getD a hP):=by
      refine Oq λa g=>?_;show((c++[d]).getD a hP).rows.take ((c++[d]).getD a hP).full=(c.getD a hP).rows.take (c.getD a hP).full;grind
     have F:ann (qH λa=>(c++[d]).getD a hP) [t]=d.rows.take d.full:=(by show(((c++[d]).getD t hP).rows.take ((c++[d]).getD t hP).full)++[]=_;grind);rw[ao,F];have I:=j.perm;rw[K] at I;refine List.Perm.trans ?_ (f.CG p);grind
    ·intro a g J;dsimp only;rcases cn a t with b|b
     ·rw[q a b];exact f.root a b J
     obtain rfl:a=t:=aa;rw[r];refine j.whole z ?_;have:mn l a=[]:=apy.2 λO P=>(by grind [yi]);grind
    ·intro b A;rcases hn.1 A with v|v
     ·exact f.dd b v
     have B:=j.dd b v;exact{B with sub:=λk i=>gD.2 (f.CH h p (by rw[s];exact B.sub k i))}
    intro a g k i;dsimp only at i;rcases cn a t with b|b
    ·rw[q a b] at i;exact f.BF a b k i
    obtain rfl:a=t:=aa;rw[r] at i;exact f.CH h p (by rw[s];exact j.sub k i)
theorem lY.fl {c:X->a9} {h:bm aP} (d:lY l n b c h) (e:a<b):(c a).full<=n/\(c a).rows.length<=n:=by have i:=(d.w a e).nd.length_le_of_subset (l₂:=bJ n) λg f=>gD.2 (d.BF a e g f);have j:=(d.w a e).full;grind
def lY.all {b:X->a9} {h:bm aP} (g:iu G l) (f:G.length=n) (d:lY l n l.length b h):(h.flatMap aP.aY).Perm (bJ n):=by
 have e:=d.perm;have j:(qj l l.length).flatMap (qH b)=[]:=List.flatMap_eq_nil_iff.2 λi k=>by
  obtain⟨a,c⟩:=hU.1 k;have a:=gD.1 a;have c:=amm c;rcases FSq g f a with⟨m,_⟩|⟨o,p,_,q,_⟩
  ·unfold qH;rw[(d.root i a m).1,List.take_nil]
  omega
 rw[j,oq,g.1.2,f] at e;exact e
end
def IP {G:et} {l:bm eD} (c:iu G l):l.length<=G.length:=by
 have:∀a,a<=l.length->a<=cG l a:=by
  intro a
  induction a with
  |zero=>omega
  |succ a d=>
   intro e;have:=d aa;have:=(jN.of c bn (aa:a<l.length)).HE;omega
 have b:=this l.length (bd _);rw[c.1.2] at b;exact b
end
theorem NQ (b:cW P):C2 (aB P,d,())=Y (mm P d,()):=by
 unfold C2;refine ai (Ip b) ?_;dsimp only;rw[AJ];cases P with
 |none=>rfl
 |some a=>
  have c:=b a bn;have i:=ki c;have f:=kB c;refine ai (oE b) ?_;dsimp only;show(bif fv a==0 then _ else _)=_;rw[kj];unfold mm yE;by_cases e:a=0
  ·grind
  rw[aA e];simp only;rw[au e,bP];have h:0<(cO a).natAbs:=(by grind [lj]);refine ai (y:=(po (br (a<0)) (cO a).natAbs (fM a) bp,())) ?_ ?_
  ·unfold HW;rw[hu];refine ai (Cw (jY aa)) ?_;simp_all [au,FD,po,c7]
  have g:c7 a=fM a:=(by unfold c7;omega);rw[g] at f;exact ai (Se aa h aa aa) rfl
theorem U9 (a:e3 d):Cy bD d 9223372036854775808=d %9223372036854775808:=by obtain⟨b,rfl⟩:=gh a.1;have c:b<18446744073709551616:=(by have:=a.2;omega);unfold Cy;rw[show bD.bits=64 from rfl,BitVec.toNat_and,VM c,(ab:(~~~cf 64 9223372036854775808).toNat=2^63-1),an7];grind [B3,Nat.mod_lt]
theorem Of (a:e3 d) (e:cE d≠2047):e3 (d %9223372036854775808)/\aX (d %9223372036854775808)=ru (aX d):=by have g:=a.1;have h:=a.2;have ao:cE (d %9223372036854775808)=cE d:=(by grind [cE]);have f:gE (d %9223372036854775808)=gE d:=(by grind [gE]);refine⟨⟨aa,aa⟩,?_⟩;rw[tR aa,tR e];have b:pp (d %9223372036854775808)=pp d:=(by grind [pp]);have i:=xS d;have c:nZ (d %9223372036854775808)=((nZ d).natAbs:Z):=(by unfold nZ;omega);rw[b,c];show Y _=Y (((nZ d*2^(pp d+65536).toNat).natAbs:X):Z);grind [kz]
theorem XC (b:e3 d) (f:cE d≠2047):C3 ([d],())=Y (bp,()):=by
 unfold C3;refine bO.1 ?_;dsimp only;refine bE (P:=λc=>c=.inl ()) ?_ (by grind [bu]);refine bQ 1 (λa e=>e=((a:Z),())) rfl ?_ ?_
 ·rintro a _ g rfl;obtain rfl:a=0:=aa;dsimp only;rw[aZ (by rfl)];refine bz (y:=d) rfl (bz (YF b) ?_);dsimp only;rw[aW (by
   rw[fY];refine aA ?_;unfold oL;omega)]
  exact bu.2 bn
 rintro _ rfl;dsimp only;rw[aW (by rfl)];grind [bu]
theorem ID (b:e3 d) (a:cE d≠2047):xq (d,())=Y (d %9223372036854775808,()):=by simp_all [bP,U9,ai,XC,xq]
section
def fi (R:aj5) (lf:aj2) (b:X):aj5:=((bJ b).filter λa=>lf.getD a bp).map λa=>R.getD a 0
theorem ya (R:aj5) (lf:aj2) (a:X):fi R lf (a+1)=if lf.getD a bp=bq then fi R lf a++[R.getD a 0] else fi R lf a:=by unfold fi;rw[jB,o5,lZ,ani];grind
structure jr (R:aj5) (full:X) (lf:aj2) (M:bm (bm gB)) (x:a9):Prop where
 ll:lf.length=R.length
 nd:R.Nodup
 sm:R.length<=1000
 fl:full<=R.length
 rows:x.rows=fi R lf R.length
 full:x.full=(fi R lf full).length
 okd:x.okd
 ent:∀i j,i<R.length->j<R.length->lf.getD i bp=bq->lf.getD j bp=bq->∃row,M[i]?=Y row/\row[j]?=Y (aB (x.s (R.getD i 0) (R.getD j 0)))
section
variable {R:aj5} {full:X} {lf:aj2} {M:bm (bm gB)} {x:a9}
def cD (R:aj5) (full:X) (lf:aj2) (M:bm (bm gB)):c5:=(cZ R,(full:Z),lf,M,())
theorem Ju (d:a<b) (c:lf.getD a bp=bq):R.getD a 0∈fi R lf b:=eQ.2 ⟨a,hU.2 ⟨gD.2 d,c⟩,bn⟩
theorem jr.mem (b:jr R full lf M x) (c:a<R.length) (d:lf.getD a bp=bq):R.getD a 0∈x.rows:=by rw[b.rows];grind [Ju]
theorem jr.value (c:jr R full lf M x) (d:a<R.length) (e:b<R.length) (f:lf.getD a bp=bq) (g:lf.getD b bp=bq):s7 (Y (cD R full lf M),(a:Z),(b:Z),())=Y (x.bj (R.getD a 0) (R.getD b 0),()):=by
 obtain⟨i,h,j⟩:=c.ent a b d e f g;unfold s7;refine ai (y:=cD R full lf M) rfl (ai (y:=i) ?_ (ai (y:=aB (x.s (R.getD a 0) (R.getD b 0))) ?_ (ai (NQ (c.okd _ (c.mem d f) _ (c.mem e g))) rfl)))
 ·rw[hY];exact h
 grind [hY]
theorem jr.inj (a:jr R full lf M x) {i j:X} (b:i<R.length) (c:j<R.length):R.getD i 0=R.getD j 0↔i=j:=by rw[k0,bi b,k0,bi c];exact p3 a.nd
theorem V3:br (gd d l>0)=br (l<d):=by rw[aj8];grind [absurd,gd]
theorem jr.ON (i:jr R full lf M x) (H:a<R.length) (T:lf.getD a bp=bq):ae (z9 (Y (cD R full lf M),(a:Z),())) λr=>
  (x.fin (R.getD a 0)/\∃e:aj1,r=(aB (Y (x.hh (R.getD a 0)).1),zx e,0,())/\(∀c,e=Y c->c<R.length/\lf.getD c bp=bq/\(x.hh (R.getD a 0)).2=Y (R.getD c 0))/\(e=bo->(x.hh (R.getD a 0)).2=bo))\/
  (¬x.fin (R.getD a 0)/\r.2.2.1=233):=by
 obtain⟨s,o⟩:∃s:X,s=65536:=⟨_,bn⟩;have F:al (cD R full lf M).1=(R.length:Z):=(by rw[a7];exact b6 _ (jI _));have ap:=i.sm;have an:=i.ll;generalize B:R.getD a 0=d;unfold z9;refine bz (AH ab ab) ?_;have J:iT 0=Y 0:=rfl;rw[J];refine bz (y:=cD R full lf M) rfl ?_;refine bE (P:=λf=>(x.fin d/\∃(e:aj1) (g:de),f=.inl (zx e,g,aB (Y (x.hh d).1),())/\(∀c,e=Y c->c<R.length/\lf.getD c bp=bq/\(x.hh d).2=Y (R.getD c 0))/\(e=bo->(x.hh d).2=bo))\/(¬x.fin d/\∃j t,f=.inr (j,t,233,()))) ?_ ?_
 rotate_left
 ·grind [bu]
 refine bQ R.length (λb f=>(∀h∈fi R lf b,cE (x.bj h d)≠2047)/\∃(e:aj1) (g:de),f=(zx e,(b:Z),g,aB (Y (hQ (λc=>x.av c d) d (fi R lf b) (0,bo)).1),())/\(∀c,e=Y c->c<R.length/\lf.getD c bp=bq/\(hQ (λc=>x.av c d) d (fi R lf b) (0,bo)).2=Y (R.getD c 0))/\(e=bo->(hQ (λc=>x.av c d) d (fi R lf b) (0,bo)).2=bo)) ?_ ?_ ?_
 ·refine⟨by simp[fi],bo,_,bn,?_,λ_=>rfl⟩;grind
 rotate_left
 ·rintro _ ⟨q,e,g,rfl,n,k⟩;dsimp only;rw[F,aW (aA (aa:¬(R.length:Z)<(R.length:Z)))];rw[<-i.rows] at q n k|-;exact bu.2 (.inl ⟨q,e,g,bn,n,k⟩)
 rintro b _ u ⟨q,e,g,rfl,n,k⟩;dsimp only;rw[F,aZ (aF (aa:(b:Z)<(R.length:Z))),bc aa];have N:ar (cD R full lf M).2.2.1 (b:Z)=Y (lf.getD b bp):=(by rw[hY];show lf[b]?=_;grind);have C:cC s 1074 1024 1 (Y (hQ (λc=>x.av c d) d (fi R lf b) (0,bo)).1):=IZ (λh E=>x.zy o (q h E)) cC.zero;rw[ya];refine bE (P:=λf=>((∀h∈(if lf.getD b bp=bq then fi R lf b++[R.getD b 0] else fi R lf b),cE (x.bj h d)≠2047)/\∃(e:aj1) (g:de),f=.inl (zx e,g,aB (Y (hQ (λc=>x.av c d) d (if lf.getD b bp=bq then fi R lf b++[R.getD b 0] else fi R lf b) (0,bo)).1),())/\(∀c,e=Y c->c<R.length/\lf.getD c bp=bq/\(hQ (λc=>x.av c d) d (if lf.getD b bp=bq then fi R lf b++[R.getD b 0] else fi R lf b) (0,bo)).2=Y (R.getD c 0))/\(e=bo->(hQ (λc=>x.av c d) d (if lf.getD b bp=bq then fi R lf b++[R.getD b 0] else fi R lf b) (0,bo)).2=bo))\/(¬x.fin d/\∃j t,f=.inr (.inr (.inr (j,t,233,()))))) ?_ ?_
 rotate_left
 ·grind [bu]
 refine bz (y:=cD R full lf M) rfl (bz N ?_);cases A:lf.getD b bp with
 |false=>
  rw[aZ (by rfl),au ab];grind [bu]
 |true=>
 rw[aW (by rfl),b8 bn];have I:=i.value u H A T;rw[B] at I;have p:=x.yD (R.getD b 0) d;refine bz I (bz (Fb p) ?_);dsimp only;by_cases f:cE (x.bj (R.getD b 0) d)=2047
 ·rw[aZ (by grind)];exact bu.2 (.inr ⟨λS=>S _ (i.mem u A) f,_,_,bn⟩)
 rw[aW (by grind)];have L:∀h∈fi R lf b++[R.getD b 0],cE (x.bj h d)≠2047:=λh E=>(by grind);have O:hQ (λc=>x.av c d) d (fi R lf b++[R.getD b 0]) (0,bo)=if R.getD b 0=d then hQ (λc=>x.av c d) d (fi R lf b) (0,bo) else if(hQ (λc=>x.av c d) d (fi R lf b) (0,bo)).2=bo\/(hQ (λc=>x.av c d) d (fi R lf b) (0,bo)).1<x.av (R.getD b 0) d then(x.av (R.getD b 0) d,Y (R.getD b 0)) else hQ (λc=>x.av c d) d (fi R lf b) (0,bo):=by rw[OI,hQ,hQ]
 rw[O];generalize hQ (λc=>x.av c d) d (fi R lf b) (0,bo)=j at*;obtain⟨l,w⟩:=j;dsimp only at n k C|-;have D:R.getD b 0=d↔b=a:=(by rw[<-B];exact i.inj u H);by_cases z:b=a
 ·rw[aZ (by grind),aw (D.2 z)];grind [bu]
 rw[aW (by grind),cc (mt D.1 z)];obtain⟨U,V⟩:=Of p f;have ad:=x.MG f;have K:=x.zy o f;have G:k4 (x.bj (R.getD b 0) d %9223372036854775808,())=Y (aB (Y (x.av (R.getD b 0) d)),()):=(by grind [r3]);refine bz (ID p f) (bz G (bz (NE (K.cX o ab ab) (C.cX o ab ab)) ?_));dsimp only;have Q:e=bo↔w=bo:=by
  constructor
  ·exact k
  intro am;cases e with
  |none=>rfl
  |some c=>
   grind
 refine bE (P:=λr=>r=(br (w=bo\/l<x.av (R.getD b 0) d),g,aB (Y l),())) ?_ ?_
 ·rw[V3];by_cases m:l<x.av (R.getD b 0) d
  ·simp_all [aF,bu,aW]
  rw[aZ (by grind)];refine bu.2 ?_;have:br (zx e<0)=br (w=bo\/l<x.av (R.getD b 0) d):=by
   rw[aj8];cases e with
   |none=>exact⟨λ_=>.inl (Q.1 bn),λ_=>by decide⟩
   |some c=>
    constructor
    ·intro v;have:((c:X):Z)<0:=v;omega
    grind
  grind
 rintro _ rfl;dsimp only;rw[c3];refine akP (λm=>?_) (λm=>?_)
 ·rw[aw m];refine bz (ID p f) (bz G ?_);refine bu.2 (.inl ⟨L,Y b,g,bn,?_,λv=>by cases v⟩);grind
 rw[au m];grind [bu]
end
end
section
theorem Jn (c:cW (Y d)) (e:cW (Y l)) (a:gb (64*d)) (b:gb (41*l)):xA (aB (Y d),aB (Y l),())=Y (br (41*l<=64*d),()):=by unfold xA;refine ai (AH ab ab) (ai (qw (x2 _) c) (ai (AH ab ab) (ai (qw (x2 _) e) ?_)));rw[P6 ab a,P6 ab b];refine ai (NE a b) ?_;dsimp only;have:br (gd (64*d) (41*l)>=0)=br (41*l<=64*d):=(by rw[aj8];grind [absurd,gd]);grind
section
variable {R:aj5} {full:X} {lf:aj2} {M:bm (bm gB)} {x:a9}
def mW (R:aj5) (lf:aj2) (c b:X):aj5:=((ako c b).filter λa=>lf.getD a bp).map λa=>R.getD a 0
theorem ae7 (R:aj5) (lf:aj2) (a b:X):mW R lf a (b+1)=if lf.getD a bp=bq then R.getD a 0::mW R lf (a+1) b else mW R lf (a+1) b:=by grind [List.range'_succ,mW]
theorem Js (R:aj5) (lf:aj2) (a:X):∀d,∃b,fi R lf (a+d)=fi R lf a++b
 |0=>⟨[],ac⟩
 |d+1=>by obtain⟨b,c⟩:=Js R lf a d;grind [ald,apz,ya]
def jr.take (a:jr R full lf M x):x.rows.take x.full=fi R lf full:=by have:=a.fl;obtain⟨c,b⟩:=Js R lf full (R.length-full);rw[a.rows,a.full,(aa:R.length=full+(R.length-full)),b,List.take_left'];rfl
theorem jr.PL (a:jr R full lf M x) {k:X} (e:k<R.length) (f:lf.getD k bp=bq):R.getD k 0∈x.rows.take x.full↔k<full:=by
 have:=a.fl;rw[a.take];constructor
 ·intro c;unfold fi at c;obtain⟨g,b,d⟩:=eQ.1 c;have b:=gD.1 (hU.1 b).1;have:=(a.inj aa e).1 d;omega
 grind [Ju]
def jr.NI (h:jr R full lf M x) (d:a<R.length) (e:lf.getD a bp=bq) (b:cE (x.bj (R.getD a 0) (R.getD a 0))≠2047):z6 (Y (cD R full lf M),(a:Z),())=Y (aB (Y (x.av (R.getD a 0) (R.getD a 0))),()):=by have c:=x.yD (R.getD a 0) (R.getD a 0);obtain⟨f,g⟩:=Of c b;unfold z6;refine ai (h.value d d e e) (ai (ID c b) (ai (y:=(aB (Y (x.av (R.getD a 0) (R.getD a 0))),())) ?_ bn));rw[r3 f,g,x.MG b]
def GK (x:a9) (R:aj5) (full:X) (lf:aj2) (c:aj5) (d:aj6×Z×bt):Prop:=(d.2.1=233/\x.iO c=bo)\/∃b:aj5,d=(cZ b,0,())/\(∀a∈b,a<full/\lf.getD a bp=bq)/\x.iO c=Y (b.map λa=>R.getD a 0)
theorem jr.choose (e:jr R full lf M x):ae (Dp (Y (cD R full lf M),())) λk=>GK x R full lf (x.rows.take x.full) k:=by
 obtain⟨D,c⟩:∃D:X,D=65536:=⟨_,bn⟩;have d1:=e.sm;have dl:=e.fl;have ds:=e.ll;rw[e.take];have a0:fi R lf full=mW R lf 0 full:=(by unfold fi mW;rw[aoo]);rw[a0];unfold Dp;refine bz (y:=cD R full lf M) rfl ?_;refine bE (P:=λd=>(d=.inl ()/\x.iO (mW R lf 0 full)=Y [])\/∃k,d=.inr k/\GK x R full lf (mW R lf 0 full) k) ?_ ?_
 rotate_left
 ·rintro _ (⟨rfl,e⟩|⟨k,rfl,e⟩)
  ·exact bu.2 (.inr ⟨[],bn,ac,e⟩)
  grind [bu]
 refine bQ full (λb cs=>cs=((b:Z),())/\x.iO (mW R lf 0 full)=x.iO (mW R lf b (full-b))) ⟨bn,bn⟩ ?_ ?_
 rotate_left
 ·rintro _ ⟨rfl,l⟩;dsimp only;rw[aW (aA (show¬(full:Z)<(cD R full lf M).2.1 from apA _))];refine bu.2 (.inl ⟨bn,?_⟩);rw[l,alf];rfl
 rintro b _ d0 ⟨rfl,l⟩;dsimp only;have z:b<R.length:=aa;rw[aZ (aF (show(b:Z)<(cD R full lf M).2.1 by show(b:Z)<(full:Z);omega)),bc aa];rw[(aa:full-b=full-(b+1)+1),ae7] at l;refine bE (P:=λd=>(d=.inl ()/\x.iO (mW R lf 0 full)=x.iO (mW R lf (b+1) (full-(b+1))))\/∃k,d=.inr (.inr (.inr k))/\GK x R full lf (mW R lf 0 full) k) ?_ ?_
 rotate_left
 ·grind [bu]
 have bl:ar (cD R full lf M).2.2.1 (b:Z)=Y (lf.getD b bp):=(by rw[hY];show lf[b]?=_;grind);refine bz (y:=cD R full lf M) rfl (bz bl ?_);cases o:lf.getD b bp with
 |false=>
  rw[o,au ab] at l;rw[aZ (by rfl)];grind [bu]
 |true=>
 rw[o,aw bn] at l;rw[aW (by rfl)];refine bE (e.ON z o) ?_;have G:=e.mem z o;generalize F:R.getD b 0=a at*;rintro⟨am,an,ap,_⟩ (⟨j,cv,i,ci,co⟩|⟨j,i⟩)
 rotate_left
 ·dsimp only at i;subst i;dsimp only;rw[aZ (by rfl)];refine bu.2 (.inr ⟨_,bn,.inl ⟨bn,?_⟩⟩);rw[l,a9.iO,b8 j]
 cases i;dsimp only;rw[aW (by rfl)];have I:=e.NI z o (by rw[F];exact j a G);rw[F] at I;refine bz I ?_;dsimp only;have t:=x.OM c j;have w:=x.zy c (j a G);have u:cW (Y (x.hh a).1):=λp g=>(by cases g;exact t.cX c ab ab);have K:cW (Y (x.av a a)):=λp g=>(by cases g;exact w.cX c ab ab);refine bE (P:=λd=>d=if(x.hh a).1=0\/41*(x.hh a).1<=64*x.av a a then .inr (.inr (.inr (.inr ([(b:Z)],0,())))) else .inl (aB (Y (x.hh a).1),aB (Y (x.av a a)),())) ?_ ?_
 ·refine bE (P:=λd=>d=(br ((x.hh a).1=0\/41*(x.hh a).1<=64*x.av a a),aB (Y (x.hh a).1),aB (Y (x.av a a)),())) ?_ ?_
  ·refine bz (oE u) ?_;dsimp only;by_cases q:(x.hh a).1=0
   ·rw[aW (by show((fv (x.hh a).1==0)==bp)=bp;grind [kj,aF])];grind [aF,bu]
   rw[aZ (by show((fv (x.hh a).1==0)==bp)=bq;grind [kj,aA])];refine bz (Jn K u (w.yJ c ab ab ab) (t.yJ c ab ab ab)) ?_;simp_all [aj8,bu]
  rintro _ rfl;dsimp only;rw[c3];refine akP (λq=>?_) (λq=>?_)
  ·rw[aw q];grind [bu]
  rw[au q];grind [bu]
 rintro _ rfl;by_cases r:(x.hh a).1=0\/41*(x.hh a).1<=64*x.av a a
 ·rw[aw r];refine bu.2 (.inr ⟨_,bn,.inr ⟨[b],bn,by grind,?_⟩⟩);simp_all [au,akw,aw,zf,a9.iO]
 rw[cc r];dsimp only;refine bz (y:=cD R full lf M) rfl ?_;cases cv with
 |none=>exact absurd (.inl (OL (co bn)).2) r
 |some h=>
  obtain⟨s,v,bx⟩:=ci h bn;have J:=e.PL s v;have H:=e.mem s v;have a4:=e.ON s v;have a3:=λj=>e.NI s v j;generalize dg:R.getD h 0=f at*;have m:x.iO (a::mW R lf (b+1) (full-(b+1)))=if f∉x.rows.take x.full then x.iO (mW R lf (b+1) (full-(b+1))) else if¬x.fin f then bo else
   if 41*((x.hh a).1*(x.hh a).1)<=64*(x.av a a*(x.hh f).1) then Y [a] else
   if 41*(x.hh f).1<=64*x.av f f then Y [f] else Y [a,f]:=by
   rw[a9.iO,au (akw j),au r,bx]
  replace m:=l.trans m;show ae (bif br ((h:Z)>=(cD R full lf M).2.1) then _ else _) _;by_cases E:h<full
  rotate_left
  ·rw[aZ (aF (show(h:Z)>=(cD R full lf M).2.1 by show(full:Z)<=(h:Z);omega))];exact bu.2 (.inl ⟨bn,m.trans (aw (mt J.1 E))⟩)
  rw[aW (aA (show¬(h:Z)>=(cD R full lf M).2.1 by show¬(full:Z)<=(h:Z);omega))];rw[au (akw (J.2 E))] at m;refine bE a4 ?_;rintro⟨am,an,ap,_⟩ (⟨n,d2,i,_,_⟩|⟨n,i⟩)
  rotate_left
  ·dsimp only at i;subst i;dsimp only;rw[aZ (by rfl)];exact bu.2 (.inr ⟨_,bn,.inl ⟨bn,m.trans (b8 n)⟩⟩)
  cases i;dsimp only;rw[aW (by rfl)];rw[cc (akw n)] at m;have A:=x.OM c n;have L:=x.zy c (n f H);have N:cW (Y (x.hh f).1):=λp g=>(by cases g;exact A.cX c ab ab);have ce:cW (Y (x.av f f)):=λp g=>(by cases g;exact L.cX c ab ab);obtain⟨B,_,_,c1,ao,U,O,Q⟩:=cC.mul c w A ab ab ab;obtain⟨C,_,_,c2,V,ad,S,T⟩:=cC.mul c t t ab ab ab;cases ao;cases U;cases V;cases ad;rw[O] at B;rw[S] at C;refine bz (qw K N) (bz (qw u u) ?_);rw[O,S];refine bz (Jn (λp g=>by cases g;exact B.cX c ab ab) (λp g=>by cases g;exact C.cX c ab ab) (B.yJ c ab ab ab) (C.yJ c ab ab ab)) ?_;dsimp only;rw[c3];refine akP (λd=>?_) (λd=>?_)
  ·rw[P5 T Q] at d;refine bu.2 (.inr ⟨_,bn,.inr ⟨[b],bn,by grind,?_⟩⟩);grind
  rw[P5 T Q] at d;rw[cc d] at m;refine bz (a3 (n f H)) (bz (Jn ce N (L.yJ c ab ab ab) (A.yJ c ab ab ab)) ?_);dsimp only;rw[c3];refine akP (λd=>?_) (λd=>?_)
  ·refine bu.2 (.inr ⟨_,bn,.inr ⟨[h],bn,by grind,?_⟩⟩);grind
  refine bu.2 (.inr ⟨_,bn,.inr ⟨[b,h],bn,?_,?_⟩⟩)
  ·grind
  grind
end
end
def e1 (lf:aj2) (a:X):aj5:=(bJ a).filter λb=>lf.getD b bp
theorem Fk (lf:aj2) (a:X):e1 lf (a+1)=if lf.getD a bp=bq then e1 lf a++[a] else e1 lf a:=by unfold e1;rw[jB,o5,lZ,ani];grind
def Jr (lf:aj2) (a:X):(e1 lf a).length<=a:=c4 (lB _ _) ac
theorem Fl (a:aj5) (lf:aj2) (b:X):fi a lf b=(e1 lf b).map λc=>a.getD c 0:=rfl
theorem RR {lf:aj2} (i:lf.length=f.length) (j:f.length<=1000):Aa (Y (cD f a lf r),())=Y (cZ (e1 lf f.length),()):=by
 have d:al (cD f a lf r).1=(f.length:Z):=(by rw[a7];exact b6 _ (jI _));unfold Aa;refine bO.1 ?_;refine bz (y:=cD f a lf r) rfl ?_;refine bE (P:=λc=>c=(cZ (e1 lf f.length),())) ?_ (by grind [bu]);refine bQ f.length (λb c=>c=((b:Z),cZ (e1 lf b),())) rfl ?_ ?_
 ·rintro b _ h rfl;dsimp only;rw[d,aZ (aF (aa:(b:Z)<(f.length:Z))),bc aa];have e:ar (cD f a lf r).2.2.1 (b:Z)=Y (lf.getD b bp):=by
   rw[hY];show lf[b]?=_;grind
  refine bE (P:=λc=>c=(cZ (e1 lf (b+1)),())) ?_ (by grind [bu]);refine bz (y:=cD f a lf r) rfl (bz e ?_);have:=Jr lf b;rw[Fk];cases g:lf.getD b bp with
  |false=>
   rw[bP,au ab];grind [bu]
  |true=>
   rw[bG,aw bn,eS (by grind [jI]),aE];refine bu.2 ?_;rw[vV];rfl
 rintro _ rfl;dsimp only;rw[d,aW (aA (aa:¬(f.length:Z)<(f.length:Z)))];grind [bu]
theorem ae1 {a:ep} {c:ez} (f:∀b∈a,cW b) (g:cW c) (i:a.length<=1000):pi (a.map aB,aB c,())=Y (a.map (λb=>aB (cJ b c)),()):=by
 unfold pi;refine bO.1 ?_;dsimp only;refine bE (P:=λe=>e=(a.map (λb=>aB (cJ b c)),())) ?_ (by grind [bu]);refine bQ a.length (λd e=>e=((d:Z),(a.take d).map (λb=>aB (cJ b c)),())) rfl ?_ ?_
 ·rintro d _ h rfl;dsimp only;rw[aZ (aF (show(d:Z)<al (a.map aB) by grind)),bc aa];refine bz (y:=aB a[d]) (by grind [hY,bX]) ?_;refine bz (qw (f _ (b3 h)) g) ?_;grind [akd,bX,bu,eS]
 rintro _ rfl;dsimp only;rw[aW (aA (show¬(a.length:Z)<al (a.map aB) by grind)),cB];grind [bu]
def eI (a:X) (E:X->X->gB):bm (bm gB):=az a λb=>az a (E b)
theorem ZJ {E:X->X->gB} (j:a<g) (k:b<g) (f:gB):∃e,(eI g E)[a]?=Y e/\e.length=g/\e[b]?=Y (E a b)/\(eI g E).set a (e.set b f)=eI g λc d=>if c=a/\d=b then f else E c d:=by
 refine⟨_,gR j,cN _ _,gR k,?_⟩;unfold eI;rw[hx,hx];refine db λc l=>?_;by_cases h:c=a
 ·subst h;rw[gG];refine db λd m=>?_;by_cases i:d=b
  ·subst i;rw[gG];grind
  simp_all [hb,au]
 simp_all [hb,db,au]
def kC (c:aj5) (f:X->X->ez) (g h:X->ez) (E:X->X->gB) (d e:X):X->X->gB:=λa b=>
 if(a∈c.take d/\b∈c)\/(c[d]?=Y a/\b∈c.take e) then aB (cR (f a b) (dc (cJ (g a) (h b)))) else E a b
theorem SW {R:aj5} {full:X} {lf:aj2} {E:X->X->gB} {l:aj5} {s:X->X->ez} {u v:X->ez} (S:a<=1000) (w:∀J∈l,J<a) (T:l.Nodup) (O:l.length<=1000) (N:∀c∈l,∀e∈l,E c e=aB (s c e)) (G:∀c∈l,∀e∈l,cW (s c e)) (H:∀c∈l,cW (u c)) (I:∀c∈l,cW (v c)):qt (cD R full lf (eI a E),cZ l,l.map (λc=>aB (u c)),l.map (λc=>aB (v c)),())=Y (cD R full lf (eI a λc e=>if c∈l/\e∈l then aB (cR (s c e) (dc (cJ (u c) (v e)))) else E c e),()):=by
 have x:al (cZ l)=(l.length:Z):=(by rw[a7,jI]);have q:∀b,(z:b<l.length)->ar (cZ l) (b:Z)=Y ((l[b]:X):Z):=λb g=>(by rw[hY];show(l.map λ(M:X)=>(M:Z))[b]?=_;grind);have y:∀(h:X->ez) b,(z:b<l.length)->ar (l.map λc=>aB (h c)) (b:Z)=Y (aB (h l[b])):=λh b g=>(by grind [hY,bX]);unfold qt;refine bO.1 ?_;dsimp only;refine bE (P:=λf=>f=(cD R full lf (eI a (kC l s u v E l.length 0)),())) ?_ ?_
 rotate_left
 ·rintro _ rfl;refine bu.2 ?_;have:eI a (kC l s u v E l.length 0)=eI a λc e=>if c∈l/\e∈l then aB (cR (s c e) (dc (cJ (u c) (v e)))) else E c e:=by
   unfold eI kC;grind
  grind
 refine bQ l.length (λb f=>f=((b:Z),cD R full lf (eI a (kC l s u v E b 0)),())) ?_ ?_ ?_
 ·grind [db,eI,kC]
 rotate_left
 ·rintro _ rfl;dsimp only;rw[x,aW (aA (aa:¬(l.length:Z)<(l.length:Z)))];grind [bu]
 rintro b _ g rfl;dsimp only;rw[x,aZ (aF (aa:(b:Z)<(l.length:Z))),bc aa];have k:=b3 g;have B:=w _ k;refine bz (q b g) ?_;refine bE (P:=λf=>f=(cD R full lf (eI a (kC l s u v E b l.length)),())) ?_ ?_
 rotate_left
 ·rintro _ rfl;refine bu.2 ?_;have:eI a (kC l s u v E b l.length)=eI a (kC l s u v E (b+1) 0):=by
   unfold eI kC;refine db λc _=>db λe _=>?_;have:(c∈l.take b/\e∈l\/l[b]?=Y c/\e∈l.take l.length)↔(c∈l.take (b+1)/\e∈l\/l[b+1]?=Y c/\e∈l.take 0):=(by rw[hM,jT,bi g];grind);grind
  grind
 refine bQ l.length (λd f=>f=((d:Z),cD R full lf (eI a (kC l s u v E b d)),())) rfl ?_ ?_
 rotate_left
 ·rintro _ rfl;dsimp only;rw[aW (aA (aa:¬(l.length:Z)<(l.length:Z)))];grind [bu]
 rintro d _ j rfl;dsimp only;rw[aZ (aF (aa:(d:Z)<(l.length:Z))),bc aa];have m:=b3 j;have C:=w _ m;have V:l[b]∉l.take b:=λD=>(by grind [al0,amB]);have U:l[d]∉l.take d:=λD=>(by grind [al0,amB]);have F:kC l s u v E b d l[b] l[d]=aB (s l[b] l[d]):=(by simp_all [cc,kC]);obtain⟨K,o,ad,eC,L⟩:=ZJ (E:=kC l s u v E b d) B C (aB (cR (s l[b] l[d]) (dc (cJ (u l[b]) (v l[d])))));rw[F] at eC;have Q:(eI a (kC l s u v E b d)).length=a:=cN _ _;have A:(cD R full lf (eI a (kC l s u v E b d))).2.2.2.1=eI a (kC l s u v E b d):=rfl;have r:=fc (n:=(eI a (kC l s u v E b d)).length) (i:=l[b]) aa;have t:=fc (n:=K.length) (i:=l[d]) aa;refine bz (q d j) ?_;rw[A];refine bz r (bz r ?_);rw[hC o,bK];refine bz t ?_;rw[hC o,hC eC,bK];refine bz (y u b g) (bz (y v d j) (bz (qw (H _ k) (I _ m)) (bz (Iq (G _ k _ m) (nq _ _)) ?_)));refine bz t ?_;rw[hC o,hC eC];refine bu.2 ?_;dsimp only;rw[L];have:(eI a λc e=>if c=l[b]/\e=l[d] then aB (cR (s l[b] l[d]) (dc (cJ (u l[b]) (v l[d])))) else kC l s u v E b d c e)=eI a (kC l s u v E b (d+1)):=by
  unfold eI kC;refine db λc _=>db λe _=>?_;dsimp only;by_cases p:c=l[b]/\e=l[d]
  ·obtain⟨rfl,rfl⟩:=p;rw[aw (show l[b]=l[b]/\l[d]=l[d] from⟨bn,bn⟩),aw];grind [amX,akc,akd,bX]
  rw[au p];grind [akd,bX,akc,alo]
 rw[<-this];rfl
section
def hO {α:Type} (l:aj5) (f g:X->X->α) (c d a b:X):α:=if(a∈l.take c/\b∈l)\/(l[c]?=Y a/\b∈l.take d) then f a b else g a b
section
variable {α:Type} {l:aj5} {f g:X->X->α}
theorem ND:hO l f g 0 0=g:=by grind [hO]
theorem NC (c:a<l.length):hO l f g a l.length=hO l f g (a+1) 0:=by funext i b;unfold hO;have:(i∈l.take a/\b∈l\/l[a]?=Y i/\b∈l.take l.length)↔(i∈l.take (a+1)/\b∈l\/l[a+1]?=Y i/\b∈l.take 0):=(by rw[hM,jT,bi c];grind);grind
theorem Nz:hO l f g l.length 0=λa b=>if a∈l/\b∈l then f a b else g a b:=by grind [hO]
theorem NB (e:l.Nodup) (c:a<l.length) (d:b<l.length):hO l f g a b l[a] l[b]=g l[a] l[b]:=by unfold hO;rw[au];grind [amB,al0]
theorem NA (h:a<l.length) (i:b<l.length):hO l f g a (b+1)=λc d=>if c=l[a]/\d=l[b] then f l[a] l[b] else hO l f g a b c d:=by
 funext c d;unfold hO;by_cases e:c=l[a]/\d=l[b]
 ·obtain⟨rfl,rfl⟩:=e;rw[aw (show l[a]=l[a]/\l[b]=l[b] from⟨bn,bn⟩),aw];grind [amX,akc,akd,bX]
 rw[au e];grind [akd,bX,akc,alo]
end
def gU (a:aj5) (b:X->X->gB):bm (bm gB):=a.map λc=>a.map λd=>b c d
theorem Td (a:aj5) (b:X->X->gB):(gU a b).length=a.length:=eP _
theorem Li (d:X->X->gB) (e:f[g]?=Y a) (h:f[w]?=Y b):∃c,(gU f d)[g]?=Y c/\c.length=f.length/\c[w]?=Y (d a b):=by simp_all [jQ,eP,gU]
theorem SD (k:f.Nodup) (h:f[a]?=Y b) (g:X->j) (d:j):(f.map g).set a d=f.map λc=>if c=b then d else g c:=by
 refine ij λi=>?_;rw[zd,jQ,jQ,eP];have l:a<f.length:=(hT.1 h).1;by_cases e:a=i
 ·grind
 rw[au e];grind [amR]
theorem Te (i:f.Nodup) (c:X->X->gB) (l:f[b]?=Y a) (m:f[w]?=Y g) (j:gB) {h:bm gB} (n:(gU f c)[b]?=Y h):(gU f c).set b (h.set w j)=gU f λe d=>if e=a/\d=g then j else c e d:=by have k:h=f.map λd=>c a d:=(by grind [akS,gU]);subst k;rw[SD i m];unfold gU;rw[SD i l];refine iJ λe _=>?_;grind
theorem Tc {a b:X->X->gB} (e:∀c∈f,∀d∈f,a c d=b c d):gU f a=gU f b:=by grind [aks,gU]
theorem Od (a:aj5) (g:X->j):az a.length (λb=>g (a.getD b 0))=a.map g:=by unfold az;refine ij λc=>?_;grind
theorem ZK (a:aj5) (b:X->X->gB):eI a.length (λc d=>b (a.getD c 0) (a.getD d 0))=gU a b:=by grind [aks,Od,gU,az,eI]
end
section
section
variable {G:et} {l:bm eD} {n t:X} {L:X->a9} {ps:bm aP} {A:X->X->ez}
theorem Nc (l:bm eD) (t a:X):e7 l (t+1) a=if gF l t=(a:Z) then e7 l t a++[t] else e7 l t a:=by grind [akD,gF,e7]
theorem qK (c:a<f.length):ar (cZ f) (a:Z)=Y ((f[a]:X):Z):=by rw[hY];show(f.map λ(b:X)=>(b:Z))[a]?=_;grind
theorem yC (c:a<f.length) (b:Z->bv j):rd (cZ f) (a:Z) b=b ((f[a]:X):Z):=by simp_all [jI,fc,aE,hC,qK,hY,cZ,rd]
end
end
theorem PO {c:Type} {p:c->bA} {d:c}:∀{e:bm c},d∈e.takeWhile p->p d=bq
 |[],a=>by cases a
 |b::e,a=>by
  rw[List.takeWhile_cons] at a;split at a
  ·rcases fC.1 a with rfl|a
   ·omega
   exact PO a
  grind
def qF (a:X->X) (c:X) (d:aj5):aj5:=d.takeWhile (λb=>br (a b<a c))++c::d.dropWhile (λb=>br (a b<a c))
def qZ (a:X->X) (b:aj5):aj5:=b.foldl (λd c=>qF a c d) []
abbrev it:=aj5×(X->Z)
def aP.eL (a:aP):bm it:=a.l.map λb=>(a.rows,b)
def lH (b:it->aj6) (a:bm it):aj6:=(bJ (a.length+1)).map λc=>(((a.take c).flatMap b).length:Z)
def gr (a:X->X) (b:it):aj6:=(qZ a b.1).map λc=>(a c:Z)
def jX (b:X->X) (a:it):aj6:=(qZ b a.1).map a.2
def pq (c:aj6) (a:bm aP) (del:Z):fI:=
 ((
  a.flatMap aP.aY).map (λb=>c.getD b 0),(a.map (λe=>(e.aY.length:Z)),(a.flatMap (·.d),
  (lH (gr λb=>(a.flatMap aP.aY).idxOf b) (a.flatMap aP.eL),((a.flatMap aP.eL).flatMap (gr λb=>(a.flatMap aP.aY).idxOf b),((a.flatMap aP.eL).flatMap (jX λb=>(a.flatMap aP.aY).idxOf b),(del,())))))))
theorem VR (b:it->aj6) (a:bm it) (c:it):lH b (a++[c])=lH b a++[(((a++[c]).flatMap b).length:Z)]:=by
 unfold lH;rw[h5,rj,jB,jR];congr 1
 ·grind [aks]
 grind
theorem Yo (a:X->X) (c:X) (b:aj5):(qF a c b).length=b.length+1:=by unfold qF;have e:=b6 cz (aop (p:=λd=>br (a d<a c)) (l:=b));grind
def SU (c:X->X):∀(b a:aj5),(b.foldl (λa p=>qF c p a) a).length=a.length+b.length
 |[],a=>rfl
 |p::b,a=>by rw[ano,SU c b,Yo,iv];omega
theorem Gm (b:X->X) (a:aj5):(qZ b a).length=a.length:=by unfold qZ;rw[SU,p5,mC]
theorem Xw (c:it->bm j) {a:bm it} (d:∀b∈a,(c b).length<=100):(a.flatMap c).length<=100*a.length:=by
 induction a with
 |nil=>grind
 |cons b a e=>
  grind
theorem Lz (c:X->Z) (f:a<b) (e:Z) (d:aj6->bv j):wr (az b c) (a:Z) e d=d (az b (eB c a e)):=by simp_all [cN,fc,aE,hC,gR,hx,wr]
def BA (c:X->Z) (d:a<b) (e:Z->bv j):rd (az b c) (a:Z) e=e (c a):=by unfold rd;rw[cN,fc d,aE,hC (gR d),aE]
theorem RA {a:bm aP} (e:∀b∈a,wY f b):a.length<=(a.flatMap aP.aY).length/\(a.flatMap aP.d).length<=3*a.length/\(a.flatMap aP.eL).length=(a.flatMap aP.aY).length:=by
 induction a with
 |nil=>grind
 |cons b a h=>
  obtain⟨i,j,k⟩:=h λg o=>e g (by grind);have c:=e b ac;have l:=c.at1;have m:=c.dl;have n:b.eL.length=b.aY.length:=(by unfold aP.eL;rw[eP,c.len]);grind
structure lA where
 R:aj5
 full:X
 lf:aj2
 M:bm (bm gB)
def lA.enc (a:lA):bv c5:=Y (cD a.R a.full a.lf a.M)
def lA.ok (a:lA):Prop:=a.lf.length=a.R.length/\a.full<=a.R.length/\a.R.length<=100
def kL (b:bm lA):aj5:=b.flatMap λa=>fi a.R a.lf a.full
theorem Jt (b:aj5) (lf:aj2) (a:X):(fi b lf a).length<=a:=by grind [cw,aky,cg,fi]
theorem M6 {l:bm lA} (b:∀a∈l,a.ok):(kL l).length<=100*l.length:=by
 induction l with
 |nil=>exact bd _
 |cons a l d=>
  have f:=d λc j=>b c (by grind);obtain⟨_,g,h⟩:=b a ac;have i:=Jt a.R a.lf a.full;have e:kL (a::l)=fi a.R a.lf a.full++kL l:=rfl;grind
theorem aeI {l:bm lA} (e:∀a∈l,a.ok) (w:l.length<=100) {F L:X} {rows:aj6} {par:Z} (s:F<=L) (t:L<=1000) (z:L-F<=rows.length) (A:rows.length<=1000):Dw (((F:Z),((L:Z),(rows,(par,())))),l.map lA.enc,())=Y (cZ (kL l++ako F (L-F))++rows.drop (L-F),((kL l++ako F (L-F)).length:Z),()):=by
 have u:=M6 e;unfold Dw;refine bO.1 ?_;dsimp only;refine bE (P:=λd=>d=(cZ (kL l),())) ?_ ?_
 ·refine bQ l.length (λc d=>d=((c:Z),cZ (kL (l.take c)),())) rfl ?_ ?_
  rotate_left
  ·rintro _ rfl;dsimp only;rw[aW (aA (show¬(l.length:Z)<al (l.map lA.enc) by grind)),cB];grind [bu]
  rintro c _ k rfl;dsimp only;rw[aZ (aF (show(c:Z)<al (l.map lA.enc) by grind)),bc aa];have f:=e _ (b3 k);have v:=M6 (l:=l.take c) λa f=>e a (apB f);have B:(l.take c).length<=c:=(by grind);have j:kL (l.take (c+1))=kL (l.take c)++fi l[c].R l[c].lf l[c].full:=(by grind [akd,bX,kL]);rw[j];refine bz (y:=l[c].enc) (by grind [hY,bX]) ?_;generalize l[c]=a at*;obtain⟨o,p,q⟩:=f;refine bz (y:=cD a.R a.full a.lf a.M) rfl ?_;refine bE (P:=λd=>d=(cZ (kL (l.take c)++fi a.R a.lf a.full),())) ?_ (by grind [bu]);refine bQ a.full (λb d=>d=((b:Z),cZ (kL (l.take c)++fi a.R a.lf b),())) ?_ ?_ ?_
  ·rw[show fi a.R a.lf 0=[] from rfl,oq];rfl
  rotate_left
  ·rintro _ rfl;dsimp only;rw[aW (aA (show¬(a.full:Z)<(cD a.R a.full a.lf a.M).2.1 from apA _))];grind [bu]
  rintro b _ i rfl;dsimp only;rw[aZ (aF (show(b:Z)<(cD a.R a.full a.lf a.M).2.1 by show(b:Z)<(a.full:Z);omega)),bc aa];have g:ar (cD a.R a.full a.lf a.M).2.2.1 (b:Z)=Y (a.lf.getD b bp):=(by rw[hY];show a.lf[b]?=_;grind);have h:ar (cD a.R a.full a.lf a.M).1 (b:Z)=Y ((a.R.getD b 0:X):Z):=(by rw[hY];show(a.R.map λ(n:X)=>(n:Z))[b]?=_;grind);have x:=Jt a.R a.lf b;refine bE (P:=λd=>d=(cZ (kL (l.take c)++fi a.R a.lf (b+1)),())) ?_ (by grind [bu]);refine bz (y:=cD a.R a.full a.lf a.M) rfl (bz g ?_);rw[ya];cases r:a.lf.getD b bp with
  |false=>
   rw[bP,au ab];grind [bu]
  |true=>
   rw[bG,aw bn];refine bz (y:=cD a.R a.full a.lf a.M) rfl (bz h ?_);rw[eS (by grind [jI]),aE];refine bu.2 ?_;rw[<-kZ,vV (kL (l.take c)++fi a.R a.lf b)];rfl
 rintro _ rfl;dsimp only;refine bE (P:=λd=>d=(cZ (kL l++ako F (L-F)),())) ?_ ?_
 ·refine bQ (L-F) (λb d=>d=(((F+b:X):Z),cZ (kL l++ako F b),())) ?_ ?_ ?_
  ·grind
  ·rintro b _ i rfl;dsimp only;rw[aZ (aF (aa:((F+b:X):Z)<(L:Z))),bc aa];rw[eS (by grind [jI]),bK];refine bu.2 ?_;rw[apC,<-ald,vV (kL l++ako F b),Nat.one_mul];rfl
  rintro _ rfl;dsimp only;rw[aW (aA (aa:¬(((F+(L-F):X):Z)<(L:Z))))];grind [bu]
 rintro _ rfl;dsimp only;have m:ax ((L:Z)-(F:Z))=((L-F:X):Z):=(by grind [bh]);rw[m];refine bz (y:=(L-F,rows.length)) ?_ ?_
 ·simp_all [aw,bd,P8,hZ]
 dsimp only;rw[cB,eS (by grind [jI]),bK];grind [a7,jI,bu]
section
def Pp (R:aj5) (lf:aj2) (a:X):(fi R lf a).length=(e1 lf a).length:=by rw[Fl,eP]
theorem Y4 (R:aj5) (lf:aj2) (d:a<b) (h:lf.getD a bp=bq):(fi R lf b)[(e1 lf a).length]?=Y (R.getD a 0):=by obtain⟨e,c⟩:=Js R lf (a+1) (b-(a+1));rw[(aa:a+1+(b-(a+1))=b)] at c;simp_all [ya,aw,kZ,rh,Pp,bd,alf]
theorem Fz {R:aj5} (h:R[a]?=Y b):(cZ R)[a]?=Y (b:Z):=by show(R.map λ(c:X)=>(c:Z))[a]?=_;grind
theorem Ku {R:aj5} (i:R.Nodup) (j:R.length<=1000) (h:a∈R):Ac (cZ R,(a:Z),())=Y (((R.idxOf a:X):Z),())/\R[R.idxOf a]?=Y a:=by have b:R[R.idxOf a]?=Y a:=(by grind);refine⟨Yi (by grind [jI]) (Fz b) λc k e=>?_,b⟩;have f:c<R.length:=(by grind);have d:=Fz (bi f);rw[d] at e;have g:R[c]=a:=(by grind);grind
section
variable {R:aj5} {full:X} {lf:aj2} {h:X->X->gB}
theorem YP (z:R.Nodup) (D:R.length<=1000) {c:aj2} {e:a9} (q:jr Q a c r e) (dl:∀b∈e.rows,b∈R) {g:X->X->ez} (cs:∀b d,cW (g b d)):Do (cD R full lf (gU R λb d=>aB (g b d)),Y (cD Q a c r),())=Y (cD R full lf (gU R λb d=>if b∈e.rows/\d∈e.rows then aB (cR (g b d) (e.s b d)) else aB (g b d)),()):=by
 have d6:=q.sm;have d9:=q.ll;have av:=q.rows;have dg:e.rows.Nodup:=(by rw[av];unfold fi;rw[anm,List.pairwise_map];refine(ap3 ?_ ((aoq (n:=Q.length)).sublist List.filter_sublist));intro d3 d4 A B bx a0;exact bx ((q.inj (al1.1 (apD.1 A).1) (al1.1 (apD.1 B).1)).1 a0));have E:∀b,b<Q.length->c.getD b bp=bq->Q.getD b 0∈R:=λb j l=>dl _ (q.mem j l);have L:al (cD Q a c r).1=(Q.length:Z):=(by rw[a7];exact b6 _ (jI _));have c1:∀b,b<Q.length->ar (cD Q a c r).1 (b:Z)=Y ((Q.getD b 0:X):Z):=λb j=>(by rw[hY];show(cZ Q)[b]?=_;grind [Fz,bX]);have V:∀b,b<Q.length->ar (cD Q a c r).2.2.1 (b:Z)=Y (c.getD b bp):=λb j=>(by rw[hY];show c[b]?=_;grind);unfold Do;refine bO.1 ?_;dsimp only;refine bz (y:=cD Q a c r) rfl ?_;rw[L,h0 aa,bK];refine bz (y:=cD Q a c r) rfl ?_;generalize N:cD R full lf (gU R λb d=>aB (g b d))=x;generalize d7:(λb=>if c.getD b bp=bq then(R.idxOf (Q.getD b 0):Z) else 0)=k;refine bE (P:=λm=>m=(x,az Q.length k,())) ?_ ?_
 ·refine bQ Q.length (λb m=>m=((b:Z),x,az Q.length (λh=>if h<b then k h else 0),())) ?_ ?_ ?_
  ·grind [iQ]
  rotate_left
  ·rintro _ rfl;simp_all [db,aw,bu,aW,aA,az]
  rintro b _ j rfl;dsimp only;rw[L,aZ (aF (aa:(b:Z)<(Q.length:Z))),bc aa];refine bE (P:=λm=>m=(x,az Q.length (λh=>if h<b+1 then k h else 0),())) ?_ (by grind [bu]);refine bz (c1 b j) (bz (y:=cD Q a c r) rfl (bz (V b j) ?_));have an:∀I,I=k b->az Q.length (eB (λh=>if h<b then k h else(0:Z)) b I)=az Q.length λh=>if h<b+1 then k h else 0:=λI ex=>db λh c2=>by
   by_cases g:h=b
   ·simp_all [gG,aw]
   rw[hb _ _ g];omega
  cases l:c.getD b bp with
  |true=>
   rw[bG];have bl:x.1=cZ R:=(by rw[<-N];rfl);refine bz (by rw[bl];exact(Ku z D (E b j l)).1) ?_;dsimp only;rw[Lz _ j,an _ (by grind)];grind [bu]
  |false=>
   rw[bP];refine bu.2 ?_;have a3:k b=0:=(by grind);have:=an 0 a3.symm;rw[<-this];have:(az Q.length λh=>if h<b then k h else(0:Z))=az Q.length (eB (λh=>if h<b then k h else(0:Z)) b 0):=db λh c2=>by
    by_cases g:h=b
    ·simp_all [gG,au]
    grind [hb]
   grind
 rintro _ rfl;subst N;dsimp only;generalize co:(λb d=>aB (cR (g b d) (e.s b d)))=o;generalize cv:(λb d=>aB (g b d))=p;have d8:(λb d=>if b∈e.rows/\d∈e.rows then aB (cR (g b d) (e.s b d)) else aB (g b d))=hO e.rows o p e.rows.length 0:=(by grind [Nz]);have ap:e.rows.length=(e1 c Q.length).length:=(by rw[av,Pp]);have T:al (az Q.length k)=(Q.length:Z):=(by rw[a7,cN]);have H:∀b,b<Q.length->c.getD b bp=bq->∃ek:(e1 c b).length<e.rows.length,e.rows[(e1 c b).length]=Q.getD b 0:=λb j l=>(by have d5:=Y4 Q c j l;grind);refine bE (P:=λm=>m=(cD R full lf (gU R (hO e.rows o p e.rows.length 0)),())) ?_ (by grind [bu]);refine bQ Q.length (λb m=>m=((b:Z),cD R full lf (gU R (hO e.rows o p (e1 c b).length 0)),az Q.length k,())) ?_ ?_ ?_
 ·rw[show(e1 c 0).length=0 from rfl,ND];rfl
 rotate_left
 ·rintro _ rfl;dsimp only;rw[T,aW (aA (aa:¬(Q.length:Z)<(Q.length:Z))),ap];grind [bu]
 rintro b _ j rfl;dsimp only;rw[T,aZ (aF (aa:(b:Z)<(Q.length:Z))),bc aa];refine bE (P:=λm=>m=(cD R full lf (gU R (hO e.rows o p (e1 c (b+1)).length 0)),az Q.length k,())) ?_ (by grind [bu]);refine bQ Q.length (λd m=>m=((d:Z),cD R full lf (gU R (hO e.rows o p (e1 c b).length (if c.getD b bp=bq then(e1 c d).length else 0))),az Q.length k,())) ?_ ?_ ?_
 ·simp_all [e1]
 rotate_left
 ·rintro _ rfl;dsimp only;rw[aW (aA (aa:¬(Q.length:Z)<(Q.length:Z)))];refine bu.2 ?_;rw[Fk];by_cases l:c.getD b bp=bq
  ·rw[aw l,aw l,h5,rj,<-ap];rw[NC (H b j l).1]
  grind
 rintro d _ t rfl;dsimp only;rw[aZ (aF (aa:(d:Z)<(Q.length:Z))),bc aa];refine bE (P:=λm=>m=(cD R full lf (gU R (hO e.rows o p (e1 c b).length (if c.getD b bp=bq then(e1 c (d+1)).length else 0))),az Q.length k,())) ?_ (by grind [bu]);generalize M:gU R (hO e.rows o p (e1 c b).length (if c.getD b bp=bq then(e1 c d).length else 0))=v;refine bz (y:=(c.getD b bp&&c.getD d bp,cD R full lf v,az Q.length k,())) ?_ ?_
 ·refine ai (y:=cD Q a c r) rfl (ai (V b j) ?_);cases l:c.getD b bp with
  |true=>
   grind
  |false=>
   grind
 dsimp only;by_cases l:c.getD b bp=bq
 rotate_left
 ·simp_all [au,bu,anN,bP]
 by_cases u:c.getD d bp=bq
 rotate_left
 ·simp_all [Fk,au,bu,Bool.and_false,bP]
 rw[l,u,am1,bG];obtain⟨A,O⟩:=H b j l;obtain⟨B,U⟩:=H d t u;rw[b8 l] at M;obtain⟨_,F⟩:=Ku z D (E b j l);obtain⟨_,G⟩:=Ku z D (E d t u);have S:k b=((R.idxOf (Q.getD b 0):X):Z):=(by grind);have ci:k d=((R.idxOf (Q.getD d 0):X):Z):=(by grind);have em:=(akU.1 F).1;have eq:=(akU.1 G).1;generalize R.idxOf (Q.getD b 0)=d0 at*;generalize R.idxOf (Q.getD d 0)=m at*;obtain⟨d1,w,fn,eC⟩:=Li (hO e.rows o p (e1 c b).length (e1 c d).length) F G;have C:=Te z (hO e.rows o p (e1 c b).length (e1 c d).length) F G (o (Q.getD b 0) (Q.getD d 0)) w;have J:=NA (f:=o) (g:=p) A B;rw[O,U] at J;rw[<-J] at C;have K:=NB (f:=o) (g:=p) dg A B;rw[O,U] at K;rw[K] at eC;have el:v.length=R.length:=(by grind [Td]);rw[M] at w C;have ad:=fc (n:=v.length) (i:=d0) aa;have am:=fc (n:=d1.length) (i:=m) aa;obtain⟨d2,ds,fl⟩:=q.ent b d j t l u;have ce:=Ny (cs (Q.getD b 0) (Q.getD d 0)) (q.okd _ (q.mem j l) _ (q.mem t u));subst co cv;have a4:(cD R full lf v).2.2.2.1=v:=rfl;rw[BA _ j,a4,S];refine bz ad ?_;rw[BA _ t,BA _ j,S];refine bz ad ?_;rw[BA _ t,ci,hC w,bK];refine bz am ?_;rw[hC w,hC eC,bK];refine bz (y:=cD Q a c r) rfl (bz (y:=d2) (by rw[hY];exact ds) (bz (y:=aB (e.s (Q.getD b 0) (Q.getD d 0))) (by grind [hY]) (bz ce ?_)));dsimp only;refine bz am ?_;rw[hC w,hC eC];refine bu.2 ?_;dsimp only;rw[C,Fk,b8 u,akG,aor,b8 bn];rfl
end
end
theorem ZP (b:∀a∈c,0<=a):cZ (c.map akz)=c:=by
 unfold cZ;rw[p6]
 conv=>rhs;rw[<-List.map_id c]
 refine iJ λa d=>?_;grind
theorem O0 (c:X->X) (a:X) (b:aj5):(qF c a b).Perm (a::b):=by grind [aop,qF]
theorem SV (c:X->X):∀(b a:aj5),(b.foldl (λa p=>qF c p a) a).Perm (b++a)
 |[],a=>amD _
 |p::b,a=>by rw[ano];refine(SV c b _).trans ?_;grind [List.perm_middle,am0,O0]
def BU (b:X->X) (a:aj5):(qZ b a).Perm a:=by have:=SV b a [];rwa[oq] at this
theorem Yp (j:f.Pairwise λb c=>v b<v c) (n:∀b∈f,v b≠v a):(qF v a f).Pairwise λb c=>v b<v c:=by
 unfold qF;have k:∀b∈f.takeWhile (λb=>br (v b<v a)),v b<v a:=λb d=>amm (PO (p:=λb=>br (v b<v a)) d);have l:∀b∈f.dropWhile (λb=>br (v b<v a)),v a<v b:=by
  intro b d;have i:f.dropWhile (λb=>br (v b<v a))≠[]:=List.ne_nil_of_mem d;have h:=List.head_dropWhile_not (λb=>br (v b<v a)) i;rw[aon] at h;have m:(f.dropWhile λb=>br (v b<v a)).Pairwise λb c=>v b<v c:=j.sublist (apE _);have o:∀c∈f.dropWhile (λb=>br (v b<v a)),c∈f:=λc g=>(apE _).subset g;generalize f.dropWhile (λb=>br (v b<v a))=e at*;cases e with
  |nil=>cases d
  |cons c e=>
   grind [amc]
 grind [amc,aop]
theorem K4 {b:X->X}:∀{e d:aj5},d.Pairwise (λa c=>b a<b c)->(∀a∈d,∀c∈e,b a≠b c)->e.Pairwise (λa c=>b a≠b c)->(e.foldl (λd p=>qF b p d) d).Pairwise λa c=>b a<b c
 |[],d,f,_,_=>f
 |p::e,d,f,i,g=>by rw[ano];rw[m7] at g;refine K4 (Yp f λa h=>i a h p ac) (λa h c j=>?_) g.2;grind [O0]
theorem SR {e:X->X}:∀{a b:aj5},a.Perm b->a.Pairwise (λx d=>e x<e d)->b.Pairwise (λx d=>e x<e d)->a=b
 |[],b,c,_,_=>c.nil_eq
 |x::a,[],c,_,_=>absurd c.length_eq ac
 |x::a,d::b,c,f,g=>by rw[m7] at f g;have h:x=d:=(by grind);subst h;rw[SR (List.perm_cons x|>.1 c) f.2 g.2]
theorem o8.key (a:Z->Z):o8 λd e=>br (a d<a e):=⟨λb c g=>by grind,λb c f h i=>by grind⟩
def Yq (c:aj6) (a b:Z) (d:bv aL) (e:bv eH):Ie (c,a,b,(d,e,()),())=Fa (λf g=>vb (f,g,d,e,())) c a b:=rfl
def adk (a:aj6) (e:Z) (c:bv aL) (d:bv eH) (i:a.length<=12) {b:aj6×bt} (f:Fa (λg h=>vb (g,h,c,d,())) a 0 (a.length:Z)=Y b):DT (a,0,(a.length:Z),e,(c,d,()),())=Y b:=by obtain⟨b,_⟩:=b;unfold DT;dsimp only;rw[PA];dsimp only;rw[aZ (aF (show ax ((a.length:Z)-0)<=12 by rw[am8,bh aa aa];omega)),Yq,f];rfl
def V1 (i:∀d∈f,d<a) (e:b<f.length) (h:g<f.length):vb ((b:Z),(g:Z),Y (az a λd=>(v d:Z)),Y (cZ f,c,()),())=Y (gd (v f[b]:Z) (v f[g]:Z),()):=by unfold vb;refine ai (y:=az a λd=>(v d:Z)) rfl (ai (y:=(cZ f,c,())) rfl (ai (qK e) (ai (rS (i _ (cF e))) ?_)));refine ai (y:=az a λd=>(v d:Z)) rfl (ai (y:=(cZ f,c,())) rfl (ai (qK h) (ai (rS (i _ (cF h))) ?_)));exact ai (CQ _ _) rfl
theorem V2:gd d l<0↔d<l:=by grind [gd]
theorem afn {n:X} {f:X->X} {rows:aj5} (N:∀g∈rows,g<n) (M:rows.length<=12) (o:rows.Pairwise λd c=>f d≠f c) (w:aj6):∃b:aj5,DQ (cZ (bJ rows.length),(Y (az n λg=>(f g:Z)),Y (cZ rows,w,()),()),())=Y (cZ b,())/\(∀a∈b,a<rows.length)/\b.length=rows.length/\b.map (λa=>rows.getD a 0)=qZ f rows:=by
 have s:(cZ (bJ rows.length)).length=rows.length:=(by rw[jI,o6]);obtain⟨⟨b,⟨⟩⟩,G,y,C,B,e⟩:=Yn (cmp:=λh x=>vb (h,x,Y (az n λg=>(f g:Z)),Y (cZ rows,w,()),())) (o8.key λh=>(f (rows.getD h.toNat 0):Z)) (cZ (bJ rows.length)) (by
  intro h x j I;obtain⟨d,l,rfl⟩:=eQ.1 j;obtain⟨c,m,rfl⟩:=eQ.1 I;simp_all [k0,bi,V2,akt,V1,gD]) aa
 dsimp only at C e;obtain⟨c,m⟩:=LX rows.length aa;have P:b=cZ (b.map akz):=(ZP λh j=>by
  obtain⟨Q,_,rfl⟩:=eQ.1 (e.mem_iff.1 j);omega).symm
 have F:(b.map akz).Perm (bJ rows.length):=(by have:=e.map akz;rwa[show(cZ (bJ rows.length)).map akz=bJ rows.length by simp[cZ,Function.comp_def]] at this);have D:∀a∈b.map akz,a<rows.length:=λa i=>al1.1 (F.mem_iff.1 i);have E:(b.map akz).map (λa=>rows.getD a 0)=qZ f rows:=(by have J:((bJ rows.length).map λa=>rows.getD a 0)=rows:=(by refine List.ext_getElem? λa=>?_;grind);have k:((b.map akz).map λa=>rows.getD a 0).Perm rows:=(by grind);have t:((b.map akz).map λa=>rows.getD a 0).Pairwise λd c=>f d≠f c:=(k.symm.pairwise o λz=>z.symm);refine SR (k.trans (BU f rows).symm) ?_ (K4 amb (λd l=>by cases l) o);rw[cA] at t|-;intro u v p r q;have O:b.length=rows.length:=(by rw[e.length_eq,s]);have K:=t u v p r q;simp only[cg] at p r;have A:=B u v q aa;rw[aon] at A;have L:∀a,(i:a<b.length)->y a=b[a]:=λa i=>(by grind [akS,gR,bX,az,cZ,bJ]);grind);refine⟨b.map akz,?_,D,by rw[cg,e.length_eq,s],E⟩;unfold DQ;have H:aK (al (cZ (bJ rows.length)))=(rows.length:Z):=(by grind [LC,a7]);dsimp only;rw[H];refine ai m ?_;dsimp only;rw[a7];refine ai (adk _ c _ _ aa G) ?_;grind
def hX (a:it):eH:=(cZ a.1,a.1.map a.2,())
theorem adq (bl:c.length=a) (em:a<=12) {r:bm aP} (F:(r.flatMap aP.aY).Perm (bJ a)) (G:∀m∈r,wY (bJ a) m) (del:Z) (co:bv (Z×((bm aL×bt)×(bm (bv (bm (Z×de)×X))×bt)))):Dy (Y (co,(cZ (r.flatMap aP.aY),(r.map (λm=>(m.aY.length:Z)),(r.flatMap (·.d),((r.flatMap aP.eL).map hX,(del,())))))),c,())=Y (pq c r del,()):=by
 obtain⟨fp,fr,fs⟩:=RA G;have T:(r.flatMap aP.aY).length=a:=(by rw[F.length_eq,ank]);have d5:(r.flatMap aP.aY).Nodup:=F.nodup_iff.2 aoq;have I:∀g,g∈r.flatMap aP.aY↔g<a:=λg=>(by rw[F.mem_iff,al1]);have C:∀t∈r.flatMap aP.eL,t.1.Nodup/\∀p∈t.1,p<a:=λt u=>(by obtain⟨m,N,u⟩:=amF.1 u;obtain⟨k,_,rfl⟩:=List.mem_map.1 u;exact⟨(G m N).nd,λp x=>al1.1 ((G m N).sub p x)⟩);unfold Dy pq;refine bO.1 ?_;dsimp only;generalize d4:r.flatMap aP.aY=j at*;generalize d2:r.flatMap aP.eL=i at*;generalize r.map (λm=>(m.aY.length:Z))=hl;generalize r.flatMap (·.d)=v;rw[show al c=(a:Z) by rw[a7,bl],h0 aa,bK,bK,bK,bK,bK];dsimp only;have U:al (cZ j)=(a:Z):=(by rw[a7,jI,T]);refine bE (P:=λm=>m=(([],([],([],([],([],([],((0:Z),()))))))),az a (λg=>(j.idxOf g:Z)),(j.map (λg=>c.getD g 0),(hl,(v,([0],(([]:aL),(([]:aL),(del,()))))))),())) ?_ ?_
 ·refine bQ a (λb m=>m=((b:Z),([],([],([],([],([],([],((0:Z),()))))))),az a (λg=>if g∈j.take b then(j.idxOf g:Z) else 0),((j.take b).map (λg=>c.getD g 0),(hl,(v,([0],(([]:aL),(([]:aL),(del,()))))))),())) ?_ ?_ ?_
  ·grind [iQ,db]
  ·rintro b _ B rfl;dsimp only;have M:b<j.length:=aa;rw[U,aZ (aF (aa:(b:Z)<(a:Z))),bc aa];have bx:j[b]<a:=(I _).1 (b3 M);have a3:j.idxOf j[b]=b:=by
    grind
   refine bz (qK M) ?_;rw[Lz _ bx];refine bz (gu aa) ?_;rw[eS (by grind),aE];refine bu.2 ?_;have ao:j.take (b+1)=j.take b++[j[b]]:=(by simp_all);have d0:(az a (eB (λg=>if g∈j.take b then(j.idxOf g:Z) else 0) j[b] (b:Z)))=az a λg=>if g∈j.take (b+1) then(j.idxOf g:Z) else 0:=by
    refine db λg eq=>?_;rw[ao];by_cases A:g=j[b]
    ·rw[A,gG,aw (k1 _ (gp.2 bn)),a3]
    grind [hb,akc]
   grind
  rintro _ rfl;simp_all [db,aw,bu,aW,aA,fN,az]
 rintro _ rfl;dsimp only;have el:∀k z,k<a->z<a->j.idxOf k=j.idxOf z->k=z:=λk z V d7 dl=>(by have S:=anp (List.idxOf_lt_length_iff.2 ((I k).2 V));grind);generalize am:(λg=>j.idxOf g)=h at*;have an:(λg=>(j.idxOf g:Z))=λg=>(h g:Z):=(by grind);have d9:∀g,j.idxOf g=h g:=λg=>(by rw[<-am]);rw[an];generalize j.map (λg=>c.getD g 0)=y;rw[bK];dsimp only;have J:al (i.map hX)=(i.length:Z):=(by grind);have ce:∀t∈i,t.1.length<=12:=λt u=>(by have:=(C t u).1.length_le_of_subset (l₂:=bJ a) λp x=>al1.2 ((C t u).2 p x);grind);have ad:∀q:bm it,(∀t∈q,t∈i)->q.length<=100->(q.flatMap (gr h)).length<=10000/\(q.flatMap (jX h)).length<=10000:=λq S d1=>(by grind [Xw,cg,Gm,jX,gr]);refine bE (P:=λm=>m=(([],([],([],([],([],([],((0:Z),()))))))),(y,(hl,(v,(lH (gr h) i,(i.flatMap (gr h),(i.flatMap (jX h),(del,()))))))),())) ?_ (by grind [bu]);refine bQ i.length (λb m=>m=((b:Z),([],([],([],([],([],([],((0:Z),()))))))),az a (λg=>(h g:Z)),(y,(hl,(v,(lH (gr h) (i.take b),((i.take b).flatMap (gr h),((i.take b).flatMap (jX h),(del,()))))))),())) rfl ?_ ?_
 rotate_left
 ·rintro _ rfl;dsimp only;rw[J,aW (aA (aa:¬(i.length:Z)<(i.length:Z))),cB];grind [bu]
 rintro b _ B rfl;dsimp only;rw[J,aZ (aF (aa:(b:Z)<(i.length:Z))),bc aa];have K:=b3 B;have a4:i.take (b+1)=i.take b++[i[b]]:=(by simp_all);have ap:ar (i.map hX) (b:Z)=Y (hX i[b]):=(by grind [hY,bX]);obtain⟨c2,dg⟩:=ad (i.take b) (λt u=>apB u) (by grind);have w:=C _ K;have D:=ce _ K;have fl:(lH (gr h) (i.take b)).length<=1000:=(by grind [cg,ank,akv,lH]);have ex:=VR (gr h) (i.take b) i[b];rw[a4];generalize i[b]=t at*;generalize i.take b=q at*;refine bz ap ?_;obtain⟨e,k⟩:=t;have D:e.length<=12:=D;have w:e.Nodup/\∀p∈e,p<a:=w;have ci:al (hX (e,k)).1=(e.length:Z):=(by rw[a7];exact b6 _ (jI _));rw[ci,h0 aa,bK];have O:al (bI e.length (0:Z))=(e.length:Z):=(by grind);generalize d8:((y,(hl,(v,(lH (gr h) q,(q.flatMap (gr h),(q.flatMap (jX h),(del,()))))))):fI)=H;refine bE (P:=λm=>m=(([],([],([],([],([],([],((0:Z),()))))))),az a (λg=>(h g:Z)),H,hX (e,k),cZ (bJ e.length),())) ?_ ?_
 ·refine bQ e.length (λp m=>m=((p:Z),([],([],([],([],([],([],((0:Z),()))))))),az a (λg=>(h g:Z)),H,hX (e,k),az e.length (λb=>if b<p then(b:Z) else 0),())) ?_ ?_ ?_
  ·grind [iQ]
  ·rintro p _ x rfl;dsimp only;rw[O,aZ (aF (aa:(p:Z)<(e.length:Z))),bc aa,Lz _ x];refine bu.2 ?_;have:az e.length (eB (λb:X=>if b<p then(b:Z) else 0) p (p:Z))=az e.length λb=>if b<p+1 then(b:Z) else 0:=db λb _=>by
    by_cases A:b=p
    ·subst A;rw[gG,aw aa]
    rw[hb _ _ A];omega
   grind
  rintro _ rfl;dsimp only;rw[O,aW (aA (aa:¬(e.length:Z)<(e.length:Z)))];refine bu.2 ?_;have:(az e.length λb:X=>if b<e.length then(b:Z) else 0)=cZ (bJ e.length):=db λb B=>b8 B;grind
 rintro _ rfl;dsimp only;obtain⟨s,cs,cv,c1,aS⟩:=afn (n:=a) (f:=h) (rows:=e) w.2 D (by
  refine sw ?_ w.1;grind) (e.map k)
 refine bz cs ?_;dsimp only;have R:al (cZ s)=(e.length:Z):=(by rw[a7,jI,c1]);have d3:∀o,o<s.length->(gr h (e,k))[o]?=Y (h (e.getD (s.getD o 0) 0):Z):=λo L=>(by grind [bX,gr]);have d6:∀o,o<s.length->(jX h (e,k))[o]?=Y (k (e.getD (s.getD o 0) 0)):=λo L=>(by grind [bX,jX]);have ek:(gr h (e,k)).length=e.length:=(by grind [cg,Gm,gr]);have fn:(jX h (e,k)).length=e.length:=(by grind [cg,Gm,jX]);refine bE (P:=λm=>m=(([],([],([],([],([],([],((0:Z),()))))))),az a (λg=>(h g:Z)),(y,(hl,(v,(lH (gr h) q,(q.flatMap (gr h)++gr h (e,k),(q.flatMap (jX h)++jX h (e,k),(del,()))))))),())) ?_ ?_
 ·refine bQ e.length (λo m=>m=((o:Z),([],([],([],([],([],([],((0:Z),()))))))),az a (λg=>(h g:Z)),(y,(hl,(v,(lH (gr h) q,(q.flatMap (gr h)++(gr h (e,k)).take o,(q.flatMap (jX h)++(jX h (e,k)).take o,(del,()))))))),hX (e,k),cZ s,())) ?_ ?_ ?_
  ·grind
  ·rintro o _ L rfl;dsimp only;have E:o<s.length:=aa;rw[R,aZ (aF (aa:(o:Z)<(e.length:Z))),bc aa,yC E];have Q:=cv _ (b3 E);have av:ar (hX (e,k)).1 ((s[o]:X):Z)=Y ((e[s[o]]:X):Z):=qK Q;have a0:ar (hX (e,k)).2.1 ((s[o]:X):Z)=Y (k e[s[o]]):=by
    rw[hY];show(e.map k)[s[o]]?=_;grind
   refine bz av ?_;rw[BA _ (w.2 _ (cF Q)),eS (by grind),aE];refine bz a0 ?_;rw[eS (by grind),aE];refine bu.2 ?_;have ds:e.getD (s.getD o 0) 0=e[s[o]]:=(by rw[k0 (l:=s),bi E];grind);grind [ald,akd]
  rintro _ rfl;dsimp only;rw[R,aW (aA (aa:¬(e.length:Z)<(e.length:Z))),cl aa,cl aa];grind [bu]
 rintro _ rfl;dsimp only;rw[eS (by grind),bK];grind [a7,bu]
section
theorem Pr (b:aj5):∀{a},a<=b.length->fi b (bI b.length bq) a=b.take a:=by
 intro a
 induction a with
 |zero=>intro _;rfl
 |succ a c=>
  intro d;rw[ya,c aa,aw (by grind),jT,bi aa,k0,bi aa];rfl
theorem jr.start {a:a9} (b:lV a) (g:a.rows.length<=1000):jr a.rows a.full (bI a.rows.length bq) (gU a.rows λc d=>aB (a.s c d)) a where
 ll:=sC ..
 nd:=b.nd
 sm:=g
 fl:=b.full
 rows:=by rw[Pr _ (bd _),hM]
 full:=by rw[Pr _ b.full,gn];have:=b.full;omega
 okd:=b.okd
 ent:=λc d e f _ _=>by obtain⟨j,h,_,i⟩:=Li (λc d=>aB (a.s c d)) (bi e) (bi f);grind
section
variable {G:et} {l:bm eD} {n t:X} {L:X->a9} {ps:bm aP} {A:X->X->ez}
theorem WH (d:jN n l t):(ie l (t:Z)).drop (iq l t)=cZ (mn l t):=by
 refine ij λa=>?_;have c:(cZ (mn l t))[a]?=((mn l t)[a]?).map λ(b:X)=>(b:Z):=(by show((mn l t).map λ(b:X)=>(b:Z))[a]?=_;grind);rw[p1,c];unfold mn;rw[jQ];by_cases e:iq l t+a<ip l t
 ·rw[d.get _ e,List.getElem?_range' aa];simp
 grind [alM,aos,ip]
structure L6 (n:X) (c:lA) (y:a9):Prop where
 r:jr c.R c.full c.lf c.M y
 len:c.R.length<=n
theorem Vq (M:iu G l) (T:G.length=n) (a0:t<l.length) (J:lY l n t L ps) (S:∀b d,cW (A b d)) (fp:n<=64) {x:X->lA} (K:∀e,e<t->L6 n (x e) (L e)) (bx:∀b d:X,b<n->d<n->xP (p,(b:Z),(d:Z),())=Y (aB (A b d),())):Dm (p,((cG l t:Z),(cG l (t+1):Z),ie l (t:Z),gF l t,()),(e7 l t t).map (λe=>(x e).enc),())=Y (cD (iN A l L t).rows (iN A l L t).full (bI (iN A l L t).rows.length bq) (gU (iN A l L t).rows λb d=>aB ((iN A l L t).s b d)),0,()):=by
 have u:=jN.of M T a0;have ex:l.length<=n:=(by have:=IP M;omega);have ad:=zB A L t (l:=l);have U:∀b∈(iN A l L t).rows,b<n:=λb m=>J.CH A u m;have d6:=J.MN A S u;have N:=(J.zA S u).nd;have d8:=u.HF;have fs:=u.own;have O:∀e∈e7 l t t,e<t:=λe D=>(Ft.1 D).1;have d9:(e7 l t t).length<=t:=(by grind [cw,aky,e7]);have dl:(cG l (t+1)-cG l t)=iq l t:=rfl;have Q:=aeI (l:=(e7 l t t).map x) (F:=cG l t) (L:=cG l (t+1)) (rows:=ie l (t:Z)) (par:=gF l t) (λe D=>by
  obtain⟨c,B,rfl⟩:=eQ.1 D;have:=K c (O c B);exact⟨this.r.ll,this.r.fl,by have:=this.len;omega⟩) (by grind) aa aa (by have:=u.Z9;grind [ip]) (by have:=u.GY;grind [ip])
 have co:kL ((e7 l t t).map x)=(e7 l t t).flatMap λe=>(L e).rows.take (L e).full:=(by unfold kL;rw[List.flatMap_map];refine Oq λe D=>?_;exact(K e (O e D)).r.take.symm);rw[List.map_map,co,dl,WH u] at Q;have ao:cZ ((e7 l t t).flatMap (λe=>(L e).rows.take (L e).full)++ako (cG l t) (iq l t))++cZ (mn l t)=cZ (iN A l L t).rows:=(by rw[<-vV,ad.1];rfl);have a4:((e7 l t t).flatMap (λe=>(L e).rows.take (L e).full)++ako (cG l t) (iq l t)).length=(iN A l L t).full:=ad.2.symm;rw[ao,a4] at Q;unfold Dm;refine bO.1 ?_;refine bz Q ?_;dsimp only;generalize d5:(iN A l L t).rows=a at*;generalize em:(iN A l L t).full=j at*;have ce:al (cZ a)=(a.length:Z):=(by rw[a7,jI]);rw[ce,aW (aA (aa:¬(a.length:Z)>64)),h0 aa,bK,bK];generalize a3:bI a.length ((bp,((bp,(([]:aj6),())),((0:Z),()))):de)=q;refine bE (P:=λi=>i=(cD a j (bI a.length bq) (gU a λ_ _=>aB (Y 0)),())) ?_ ?_
 ·refine bQ a.length (λb i=>i=((b:Z),cD a j (az a.length λc=>br (c<b)) (az a.length λc=>if c<b then q else[]),())) ?_ ?_ ?_
  ·have z:(az a.length λc=>br (c<0))=bI a.length bp:=(by grind [db,akC,iQ]);have H:(az a.length λc=>if c<0 then q else[])=bI a.length []:=(by simp_all [db,au,iQ]);rw[z,H];rfl
  ·rintro b _ m rfl;dsimp only;rw[aZ (aF (aa:(b:Z)<(a.length:Z))),bc aa,bK];have c1:(cD a j (az a.length λc=>br (c<b)) (az a.length λc=>if c<b then q else[])).2.2.1=az a.length λc=>br (c<b):=rfl;rw[c1];refine bz (fc (by grind [cN])) ?_;rw[hC (gR m),hx];refine bz bn ?_;dsimp only;have c2:(cD a j (az a.length λc=>br (c<b)) (az a.length λc=>if c<b then q else[])).2.2.2.1=az a.length λc=>if c<b then q else[]:=rfl
   rw[c2];refine bz (fc (by grind [cN])) ?_;rw[hC (gR m),hx];refine bz bn ?_;refine bu.2 ?_;have z:az a.length (eB (λc=>br (c<b)) b bq)=az a.length λc=>br (c<b+1):=db λc _=>by
    by_cases v:c=b
    ·grind [gG,akb]
    rw[hb _ _ v,aj8];omega
   have H:az a.length (eB (λc=>if c<b then q else[]) b q)=az a.length λc=>if c<b+1 then q else[]:=db λc _=>by
    by_cases v:c=b
    ·simp_all [gG,aw]
    rw[hb _ _ v];grind
   rw[a3,z,H];rfl
  rintro _ rfl;dsimp only;rw[aW (aA (aa:¬(a.length:Z)<(a.length:Z)))];refine bu.2 ?_;have z:(az a.length λc=>br (c<a.length))=bI a.length bq:=(by grind [db,akb,iQ]);have H:(az a.length λc=>if c<a.length then q else[])=gU a λ_ _=>aB (Y 0):=(by have bl:(az a.length λc=>if c<a.length then q else[])=az a.length λ_=>q:=db λc B=>b8 B;have I:q=a.map λ_=>aB (Y 0):=(by rw[<-a3];exact(List.map_const' ..).symm);rw[bl,Od a λ_=>q,I];rfl);grind
 rintro _ rfl;dsimp only;generalize eq:bI a.length bq=lf;refine bE (P:=λi=>i=(cD a j lf (gU a λb d=>aB (zz A l t b d)),())) ?_ ?_
 ·generalize an:(λb d=>aB (zz A l t b d))=h;generalize cv:(λ(_ _:X)=>aB (Y 0))=k;have cs:gU a h=gU a (hO a h k a.length 0):=by
   rw[Nz];simp_all [Tc,aw]
  rw[cs];refine bQ a.length (λb i=>i=((b:Z),cD a j lf (gU a (hO a h k b 0)),())) ?_ ?_ ?_
  ·rw[ND];rfl
  rotate_left
  ·rintro _ rfl;dsimp only;rw[aW (aA (aa:¬(a.length:Z)<(a.length:Z)))];grind [bu]
  rintro b _ m rfl;dsimp only;rw[aZ (aF (aa:(b:Z)<(a.length:Z))),bc aa];refine bE (P:=λi=>i=(cD a j lf (gU a (hO a h k b a.length)),())) ?_ (by grind [bu,NC]);refine bQ a.length (λd i=>i=((d:Z),cD a j lf (gU a (hO a h k b d)),())) rfl ?_ ?_
  rotate_left
  ·rintro _ rfl;dsimp only;rw[aW (aA (aa:¬(a.length:Z)<(a.length:Z)))];grind [bu]
  rintro d _ w rfl;dsimp only;rw[aZ (aF (aa:(d:Z)<(a.length:Z))),bc aa];refine bE (P:=λi=>i=(cD a j lf (gU a (hO a h k b (d+1))),())) ?_ (by grind [bu]);have fr:=NB (f:=h) (g:=k) N m w;have av:=NA (f:=h) (g:=k) m w;obtain⟨ft,R,fz,eC⟩:=Li (hO a h k b d) (bX m) (bX w);have I:=Te N (hO a h k b d) (bX m) (bX w) (h a[b] a[d]) R;rw[<-av] at I;have fn:(gU a (hO a h k b d)).length=a.length:=Td _ _;have d0:h a[b] a[d]=k a[b] a[d]->gU a (hO a h k b d)=gU a (hO a h k b (d+1)):=λek=>(by rw[av];refine Tc λd3 _ d4 _=>?_;grind);generalize d7:gU a (hO a h k b d)=E at*;have V:(cD a j lf E).1=cZ a:=rfl;have ci:(cD a j lf E).2.2.2.1=E:=rfl;rw[V,yC m,yC w];have dg:(if((a[d]:X):Z)<((a[b]:X):Z) then((a[d]:X):Z) else((a[b]:X):Z))=((min a[b] a[d]:X):Z):=aa;rw[dg];refine bz (y:=(br (cG l t<=min a[b] a[d]/\min a[b] a[d]<cG l (t+1)),cD a j lf E,())) ?_ ?_
  ·by_cases v:cG l t<=min a[b] a[d]
   ·rw[aZ (by grind)];rw[aj8.2 (aa:((min a[b] a[d]:X):Z)<(cG l (t+1):Z)↔cG l t<=min a[b] a[d]/\min a[b] a[d]<cG l (t+1))]
   grind
  dsimp only;by_cases v:cG l t<=min a[b] a[d]/\min a[b] a[d]<cG l (t+1)
  ·rw[aZ (aF v),ci];have d2:aB (A a[b] a[d])=h a[b] a[d]:=(by rw[<-an];dsimp only;unfold zz;grind);refine bz (fc aa) ?_;rw[V,yC m,yC w];refine bz (bx _ _ (U _ (b3 m)) (U _ (b3 w))) ?_;dsimp only;rw[hC R,bK];refine bz (fc aa) ?_;rw[hC R,hC eC,d2];refine bz bn ?_;refine bu.2 ?_;dsimp only;rw[I];rfl
  rw[aW (aA v)];refine bu.2 ?_;rw[d0 (by rw[<-an,<-cv];dsimp only;unfold zz;grind)]
 rintro _ rfl;dsimp only;have el:∀C:aj5,(C.foldl (λo e=>o.plus (L e)) (mH A l L t)).rows=a:=λC=>(by simp_all [FU,mH]);have ds:∀(C:aj5) b d,cW ((C.foldl (λo e=>o.plus (L e)) (mH A l L t)).s b d):=λC=>Kv L _ _ λb d=>by
  show cW (if _ then _ else _);split
  ·grind
  exact yq
 refine bE (P:=λi=>i=(cD a j lf (gU a λb d=>aB ((iN A l L t).s b d)),())) ?_ (by grind [bu]);have am:al ((e7 l t t).map λe=>(x e).enc)=((e7 l t t).length:Z):=(by grind);refine bQ (e7 l t t).length (λc i=>i=((c:Z),cD a j lf (gU a λb d=>aB ((((e7 l t t).take c).foldl (λo e=>o.plus (L e)) (mH A l L t)).s b d)),())) rfl ?_ ?_
 rotate_left
 ·rintro _ rfl;dsimp only;rw[am,aW (aA (aa:¬((e7 l t t).length:Z)<((e7 l t t).length:Z))),cB];exact bu.2 bn
 rintro c _ B rfl;dsimp only;rw[am,aZ (aF (aa:(c:Z)<((e7 l t t).length:Z))),bc aa];have ap:=b3 B;refine bz (y:=(x (e7 l t t)[c]).enc) (by grind [hY,bX]) ?_;have d1:∀b∈(L (e7 l t t)[c]).rows,b∈a:=λb m=>(by have:=J.child A M T a0 ap m;grind);have z:=YP (full:=j) (lf:=lf) N aa (K _ (O _ ap)).r d1 (g:=(((e7 l t t).take c).foldl (λo e=>o.plus (L e)) (mH A l L t)).s) (ds _);refine bz z ?_;refine bu.2 ?_;rw[akd,bX B,List.foldl_append];have:(λb d=>if b∈(L (e7 l t t)[c]).rows/\d∈(L (e7 l t t)[c]).rows then aB (cR ((((e7 l t t).take c).foldl (λo e=>o.plus (L e)) (mH A l L t)).s b d) ((L (e7 l t t)[c]).s b d)) else aB ((((e7 l t t).take c).foldl (λo e=>o.plus (L e)) (mH A l L t)).s b d))=λb d=>aB (((((e7 l t t).take c).foldl (λo e=>o.plus (L e)) (mH A l L t)).plus (L (e7 l t t)[c])).s b d):=(by funext b d;show _=aB (if _ then _ else _);grind);simp_all
end
end
def yy (l:Z->bv (de×bt)) (r:bv c5) (f:aL) (q:de):bv (eH×fP×Z×bt):=
 (loop (σ:=(Z×eH×eH×fP×bt)) (ρ:=((eH×eH×fP×bt)⊕(eH×fP×Z×bt))) (λ(e,h,a,d,_)=>
  bif br (e<al f) then
 (ar f e).bind λi=>
 (l i).bind λ(o,_)=>
 (s3 (o,q,0,())).bind λ(b,_)=>
 (ph (b,())).bind λ(p,_)=>
  bif !p then
 Y (.inr (.inr (a,[],233,()))) else
  r.bind λs=>
 (ar s.1 i).bind λc=>
 (cI ((a.1).length+([c]).length)).bind λ_=>
 (cI ((a.2.1).length+([b]).length)).bind λ_=>
 (k4 (b,())).bind λ(g,_)=>
 (cI (d.length+([g]).length)).bind λ_=>
 Y (.inl (aM e,h,(((a.1++[c]),a.2).1,((((a.1++[c]),a.2).2.1++[b]),((a.1++[c]),a.2).2.2)),(d++[g]),())) else
 Y (.inr (.inl (h,a,d,())))) (0,([],([],())),([],([],())),[],())).bind λm=>match m with
 |.inl (_,j,k,_)=>(
 Y (j,k,0,()))
 |.inr n=>Y n
def adL (c:bv c5) (a:aL) (b:de):HZ (c,a,(),b,())=yy (λd=>Du (d,())) c a b:=rfl
def adM (e:bv c5) (c:aL) (d:de) (a:bv (bv c5)) (b:ez):H0 (e,c,(a,b,()),d,())=yy (λf=>Dt (f,a,b,())) e c d:=rfl
def adN (g:bv c5) (e:aL) (f:de) (a:bv (bv (bv c5)×bt)) (b c:ez) (d:bv fP):H1 (g,e,(a,b,c,d,()),f,())=yy (λh=>Dq (h,a,b,c,d,())) g e f:=rfl
def adO (g:bv c5) (e:aL) (f:de) (a:bv (bv (bv c5)×bt)) (b c:ez) (d:bv fP):H2 (g,e,(a,b,c,d,()),f,())=yy (λh=>Dr (h,a,b,c,d,())) g e f:=rfl
def rx (b:aj5) (a:aj5) (c:X->Z):eH:=(cZ (a.map λd=>b.getD d 0),a.map c,())
theorem FY {lf:aj2} (w:Q.length<=1000) {v:X->ez} {c:ez} (p:cW c) (n:∀b∈f,b<Q.length/\cW (v b)/\U (b:Z)=Y (aB (v b),())) (z:f.length<=1000):ae (yy U (Y (cD Q a lf r)) (cZ f) (aB c)) λj=>((∀b∈f,cE (gS (v b) c 0)≠2047)/\j=(rx Q f λb=>gS (v b) c 0,f.map (λb=>aB (aX (gS (v b) c 0))),0,()))\/((∃b∈f,cE (gS (v b) c 0)=2047)/\j.2.2.1=233):=by
 have i:al (cZ f)=(f.length:Z):=(by rw[a7,jI]);unfold yy;refine bE (P:=λe=>((∀b∈f,cE (gS (v b) c 0)≠2047)/\e=.inl (([],([],())),rx Q f λb=>gS (v b) c 0,f.map (λb=>aB (aX (gS (v b) c 0))),()))\/((∃b∈f,cE (gS (v b) c 0)=2047)/\∃k,e=.inr (k,[],233,()))) ?_ ?_
 ·refine bQ f.length (λd e=>(∀b∈f.take d,cE (gS (v b) c 0)≠2047)/\e=((d:Z),([],([],())),rx Q (f.take d) λb=>gS (v b) c 0,(f.take d).map (λb=>aB (aX (gS (v b) c 0))),())) ⟨ac,bn⟩ ?_ ?_
  ·rintro d _ h ⟨g,rfl⟩;dsimp only;rw[i,aZ (aF (aa:(d:Z)<(f.length:Z))),bc aa];have o:=b3 h;obtain⟨u,l,m⟩:=n _ o;have A:(f.take d).length<=1000:=(by grind);have q:f.take (d+1)=f.take d++[f[d]]:=(by simp_all);refine bz (qK h) (bz m (bz (XD l p) (bz (Fb (FX 0)) ?_)));dsimp only;by_cases t:cE (gS (v f[d]) c 0)=2047
   ·rw[aZ (by grind)];grind [bu]
   rw[aW (by grind)];refine bz (y:=cD Q a lf r) rfl (bz (y:=((Q.getD f[d] 0:X):Z)) ?_ ?_)
   ·rw[hY];exact Fz (by grind)
   have ao:(rx Q (f.take d) λb=>gS (v b) c 0).1.length<=1000:=(by show(cZ _).length<=1000;grind [jI,cg]);have s:(rx Q (f.take d) λb=>gS (v b) c 0).2.1.length<=1000:=(by show((f.take d).map _).length<=1000;grind);rw[eS (by grind),bK,eS (by grind),bK];refine bz (r3 (FX 0)) ?_;dsimp only;rw[eS (by grind),bK];refine bu.2 ⟨λb x=>?_,?_⟩
   ·grind
   unfold rx;rw[q,jR,jR,jR,vV];rfl
  rintro _ ⟨g,rfl⟩;dsimp only;rw[cB] at g;rw[i,aW (aA (aa:¬(f.length:Z)<(f.length:Z))),cB];grind [bu]
 grind [bu]
section
def wM (c:X) (x:a9):Prop:=∀a:X,a=65536->∀b∈x.rows,∀d∈x.rows,cC a 3222 3072 c (x.s b d)
structure iX (R:aj5) (full:X) (lf:aj2) (E:X->X->gB) (x:a9) (c:X):Prop where
 r:jr R full lf (eI R.length E) x
 ex:wM c x
section
variable {R:aj5} {full:X} {lf lf':aj2} {E:X->X->gB} {x:a9} {c:X}
theorem iX.e (d:iX R full lf E x c) (f:a<R.length) (g:b<R.length) (h:lf.getD a bp=bq) (i:lf.getD b bp=bq):E a b=aB (x.s (R.getD a 0) (R.getD b 0)):=by obtain⟨l,j,k⟩:=d.r.ent a b f g h i;grind [akS,gR,eI]
theorem jr.rest (b:jr R full lf r x) {p:aj5} (h:∀a∈p,a<full) (g:∀a,a<R.length->lf'.getD a bp=(lf.getD a bp&&br (a∉p))) {i:X} (l:i<=R.length):fi R lf' i=(fi R lf i).filter λd=>br (d∉p.map λa=>R.getD a 0):=by
 have k:=b.fl;unfold fi;rw[anA,zb];congr 1;refine p0 λa c=>?_;have c:=gD.1 c;rw[g a aa,Bool.and_comm];congr 1;show _=br (R.getD a 0∉p.map λa=>R.getD a 0);refine aj8.2 (not_congr ?_);rw[eQ];constructor
 ·grind
 rintro⟨j,f,e⟩;have m:=h j f;have:=(b.inj (i:=j) (j:=a) aa aa).1 e;grind
theorem iX.next (b:iX R full lf E x c) {p:aj5} (B:∀a∈p,a<full/\lf.getD a bp=bq) (A:p.Nodup) (z:lf'.length=lf.length) (o:∀a,a<R.length->lf'.getD a bp=(lf.getD a bp&&br (a∉p))) {E':X->X->gB} {c':X} (D:∀d e,d<R.length->e<R.length->lf'.getD d bp=bq->lf'.getD e bp=bq->E' d e=aB ((x.elim (p.map λa=>R.getD a 0)).s (R.getD d 0) (R.getD e 0))) (C:wM c' (x.elim (p.map λa=>R.getD a 0))):iX R full lf' E' (x.elim (p.map λa=>R.getD a 0)) c':=by
 have m:=b.r.fl;have f:∀a∈p,a<full:=λa y=>(B a y).1;refine⟨⟨z.trans b.r.ll,b.r.nd,b.r.sm,m,?_,?_,λd _ e _=>qk _ _,λd e w F J K=>?_⟩,C⟩
 ·rw[b.r.rest f o (bd _),<-b.r.rows];rfl
 ·rw[b.r.rest f o m];show x.full-(p.map _).length=_;have u:(p.map λa=>R.getD a 0).Nodup:=by
   rw[anm,ou];refine sw ?_ A;intro k l h j i g;have q:=f k h;have t:=f l j;exact i ((b.r.inj aa aa).1 g)
  have v:(fi R lf full).Nodup:=(by unfold fi;rw[anm,ou];refine sw ?_ ((sE (n:=full)).sublist uy);intro k l h j i g;have q:=gD.1 (hU.1 h).1;have t:=gD.1 (hU.1 j).1;exact i ((b.r.inj aa aa).1 g));have G:=ER v u (λL H=>by
   grind [Ju])
  have I:=b.r.full;omega
 refine⟨az R.length (E' d),gR w,?_⟩;grind [gR]
theorem Nl {b:X->Z}:rx R f (λa=>b (R.getD a 0))=hX (f.map (λa=>R.getD a 0),b):=by simp_all [p6,rx,hX]
theorem x9 {lf:aj2}:a∈e1 lf b↔a<b/\lf.getD a bp=bq:=by grind [e1]
def Pq (lf:aj2) (a:X):(e1 lf a).Nodup:=(sE (n:=a)).sublist uy
end
theorem agT (b:cE d≠2047):aX d=Y 0↔oL d=0:=by
 constructor
 ·intro a;rw[tR b] at a;have a:=gq a;have e:(2:Z)^(pp d+65536).toNat≠0:=Int.ne_of_gt (lz ab);have c:nZ d=0:=(amr.1 a).resolve_right e;have h:=xS d;have g:0<=gE d:=aa;unfold oL;rw[au b];have f:cE d=0/\gE d=0:=by
   unfold nZ at c;omega
  omega
 intro a;unfold oL at a;rw[au b] at a;by_cases i:cE d=0/\gE d=0
 ·simp_all [om,aw,tR,nZ]
 omega
end
section
section
variable {R:aj5} {full:X} {lf lf':aj2} {E:X->X->gB} {x:a9} {c:X}
theorem Xh (c:aj5) (b:X->Z):c.map (λa=>aB (aX (b a)))=(c.map λa=>aX (b a)).map aB:=by simp_all
theorem SA {l:aj5} {f:X->Z} {d:ez} (b:cW d) (g:l.length<=1000):pi (l.map (λa=>aB (aX (f a))),aB d,())=Y (l.map (λa=>aB (cJ (aX (f a)) d)),()):=by
 rw[Xh,ae1 (λc e=>by
  grind [iC]) b (by grind),p6]
 rfl
theorem afe (i:iX R full lf E x c) (d6:c+4<1048576) {p:X} (eq:p<full) (H:lf.getD p bp=bq) (P:lf'.length=lf.length) (O:∀a,a<R.length->lf'.getD a bp=(lf.getD a bp&&br (a∉[p]))) (an:x.fin (R.getD p 0)):ae (Ds (cD R full lf' (eI R.length E),(p:Z),x.bj (R.getD p 0) (R.getD p 0),())) λq=>
  ((x.dd [R.getD p 0]).fin/\∃E',q=(cD R full lf' (eI R.length E'),(x.dd [R.getD p 0]).eL.map hX,0,())/\iX R full lf' E' (x.elim [R.getD p 0]) (c+4))\/(¬(x.dd [R.getD p 0]).fin/\q.2.2.1=233/\q.2.1=[]):=by
 have d9:=i.r.fl;have A:=i.r.sm;have I:p<R.length:=aa;have a0:lf'.length=R.length:=P.trans i.r.ll;generalize C:R.getD p 0=b at*;have G:cE (x.bj b b)≠2047:=(by have:=an (R.getD p 0) (i.r.mem I H);grind);have j:∀a∈e1 lf' R.length,a<R.length/\lf.getD a bp=bq/\a≠p:=λa h=>(by obtain⟨L,d4⟩:=x9.1 h;grind);have z:(e1 lf' R.length).length<=1000:=c4 (Jr _ _) aa;have a3:=Pq lf' R.length;have bl:(e1 lf' R.length).map (λa=>R.getD a 0)=x.rows.filter λd=>br (d∉[b]):=(by have:=i.r.rest (lf':=lf') (p:=[p]) (λa h=>by grind) O (bd _);rw[<-i.r.rows] at this;grind [Fl,apF]);have U:∀o,(x.dd [b]).rows=(e1 lf' R.length).map (λa=>R.getD a 0)/\(o∈(x.dd [b]).l↔o=λd=>if oL (x.bj b b)=0 then 0 else gS (x.s d b) (aX (x.bj b b)) 0):=λo=>⟨bl.symm,by
  show o∈[_]↔_;grind⟩
 generalize D:(λd=>if oL (x.bj b b)=0 then(0:Z) else gS (x.s d b) (aX (x.bj b b)) 0)=f at U;have M:∀d,f d=if oL (x.bj b b)=0 then(0:Z) else gS (x.s d b) (aX (x.bj b b)) 0:=λd=>by rw[<-D]
 have a4:(x.dd [b]).l=[f]:=(by rw[<-D];rfl);have d8:(x.dd [b]).eL=[((e1 lf' R.length).map (λa=>R.getD a 0),f)]:=(by simp_all [aP.eL]);have ap:(x.dd [b]).fin↔∀a∈e1 lf' R.length,cE (f (R.getD a 0))≠2047:=by
  unfold aP.fin;rw[a4,<-(U f).1.symm];constructor
  ·exactλav a h=>av f ac _ (eQ.2 ⟨a,h,bn⟩)
  grind
 obtain⟨V,am⟩:=FE G;have F:cW (aX (x.bj b b)):=iC _;unfold Ds;dsimp only;refine bz (RR a0 A) ?_;dsimp only;refine bz (r3 (x.yD _ _)) ?_;dsimp only;refine bz (oE F) ?_;dsimp only;have bx:(h1 (aX (x.bj b b))==0)=br (oL (x.bj b b)=0):=(by rw[fY,aj8,<-agT G,am];show fv V=0↔_;grind [alo,fv]);rw[bx];have fn:(∀a∈e1 lf' R.length,cE (f (R.getD a 0))≠2047)->
  ae ((pi ((e1 lf' R.length).map (λa=>aB (aX (f (R.getD a 0)))),aB (aX (x.bj b b)),())).bind λ(ds,_)=>
   (qt (cD R full lf' (eI R.length E),cZ (e1 lf' R.length),ds,(e1 lf' R.length).map (λa=>aB (aX (f (R.getD a 0)))),())).bind λ(dl,_)=>
   Y (dl,[rx R (e1 lf' R.length) λa=>f (R.getD a 0)],(0:Z),())) λq=>((x.dd [b]).fin/\∃E',q=(cD R full lf' (eI R.length E'),(x.dd [b]).eL.map hX,0,())/\iX R full lf' E' (x.elim [b]) (c+4))\/(¬(x.dd [b]).fin/\q.2.2.1=233/\q.2.1=[]):=by
  intro t;refine bz (SA F z) ?_;dsimp only;have ce:=SW (R:=R) (full:=full) (lf:=lf') (E:=E) (l:=e1 lf' R.length) (s:=λd g=>x.s (R.getD d 0) (R.getD g 0)) (u:=λa=>cJ (aX (f (R.getD a 0))) (aX (x.bj b b))) (v:=λa=>aX (f (R.getD a 0))) A (λa h=>(j a h).1) a3 z
   (λd k g m=>i.e (j d k).1 (j g m).1 (j d k).2.1 (j g m).2.1) (λd k g m=>i.r.okd _ (i.r.mem (j d k).1 (j d k).2.1) _ (i.r.mem (j g m).1 (j g m).2.1)) (λd _=>nq _ _) (λd _=>iC _)
  refine bz ce ?_;refine bu.2 (.inl ⟨ap.2 t,(λd g=>if d∈e1 lf' R.length/\g∈e1 lf' R.length then aB (cR (x.s (R.getD d 0) (R.getD g 0)) (dc (cJ (cJ (aX (f (R.getD d 0))) (aX (x.bj b b))) (aX (f (R.getD g 0)))))) else E d g),?_,?_⟩)
  ·grind [Nl]
  have N:∀d J,AT (x.ks [b]) (x.lc [b]) d J=kk (f d) (x.bj b b) (f J):=λd J=>(by rw[<-D];rfl);have em:=i.next (lf':=lf') (p:=[p]) (λa h=>by grind) ac P O (E':=λd g=>if d∈e1 lf' R.length/\g∈e1 lf' R.length then aB (cR (x.s (R.getD d 0) (R.getD g 0)) (dc (cJ (cJ (aX (f (R.getD d 0))) (aX (x.bj b b))) (aX (f (R.getD g 0)))))) else E d g) (c':=c+4) (λd g k m cv c1=>by
   rw[aw ⟨x9.2 ⟨k,cv⟩,x9.2 ⟨m,c1⟩⟩,zf,C];show _=aB (cR _ (dc (AT (x.ks [b]) (x.lc [b]) _ _)));rw[N];rfl) (by
   rw[zf,C];intro K B d k g m;have ek:=k;have el:=m;change d∈x.rows.filter _ at k;change g∈x.rows.filter _ at m;have Q:∀o,o∈x.rows.filter (λd=>br (d∉[b]))->o∈x.rows/\cE (f o)≠2047:=λo d5=>(by grind);obtain⟨i1,ci⟩:=Q d k;obtain⟨co,cs⟩:=Q g m;show cC K 3222 3072 (c+4) (cR _ (dc (AT (x.ks [b]) (x.lc [b]) _ _)));rw[N];exact(cC.sub B (i.ex K B d i1 g co) (cC.kk B ci G cs) aa).1.mono (bd _) (bd _) aa)
  grind
 by_cases w:oL (x.bj b b)=0
 ·rw[aZ (aF w)];have ad:∀d,f d=0:=λd=>(by rw[M d,b8 w]);have L:rB (1,())=Y (aB (iT 1),()):=AH ab ab;refine bz L ?_;dsimp only;rw[adL];have S:∀a:X,gS (Y 0) (iT 1) 0=0:=λ_=>by
   rw[Jb (n:=1) ab bn];unfold gS;grind
  refine bE (FY (v:=λ_=>Y 0) A (x2 1) (λa h=>⟨(j a h).1,yq,?_⟩) z) ?_
  ·unfold Du;dsimp only;exact ai (AH ab ab) rfl
  rintro q (⟨t,rfl⟩|⟨⟨a,h,t⟩,_⟩)
  ·dsimp only;rw[aW (by rfl)];have ao:(λa:X=>gS (Y 0) (iT 1) 0)=λa=>f (R.getD a 0):=(by simp_all);have d3:(e1 lf' R.length).map (λa=>aB (aX (gS (Y 0) (iT 1) 0)))=(e1 lf' R.length).map λa=>aB (aX (f (R.getD a 0))):=aks λa _=>(by rw[S a,ad]);grind
  rw[S a] at t;exact absurd t ab
 rw[aW (aA w)];have d7:∀d,f d=gS (x.s d b) (aX (x.bj b b)) 0:=λd=>(by rw[M d,au w]);rw[adM];refine bE (FY (v:=λa=>x.s (R.getD a 0) b) A F (λa h=>⟨(j a h).1,?_,?_⟩) z) ?_
 ·have:=i.r.okd _ (i.r.mem (j a h).1 (j a h).2.1) _ (i.r.mem I H);grind
 ·unfold Dt;dsimp only;obtain⟨d0,c2,dg⟩:=i.r.ent a p (j a h).1 I (j a h).2.1 H;rw[C] at dg;refine ai (y:=Y (cD R full lf' (eI R.length E))) rfl (ai (y:=cD R full lf' (eI R.length E)) rfl ?_);refine ai (y:=d0) (by rw[hY];exact c2) (ai (y:=(p:Z)) rfl (ai (y:=aB (x.s (R.getD a 0) b)) (by grind [hY]) rfl))
 rintro q (⟨t,rfl⟩|⟨⟨a,h,t⟩,T⟩)
 ·grind
 obtain⟨o,d1,d2,_⟩:=q;dsimp only at T;subst T;dsimp only;rw[aZ (by rfl)];grind [bu]
end
end
section
theorem NH:u9 ([aB (aX l),aB (aX d),aB (aX z)],())=Y (aB (ja [l,d,z]),()):=by unfold u9;dsimp only;refine ai (y:=aB (aX l)) rfl (ai (y:=aB (aX z)) rfl (ai (qw (iC _) (iC _)) (ai (y:=aB (aX d)) rfl (ai (y:=aB (aX d)) rfl (ai (qw (iC _) (iC _)) (ai (Iq (nq _ _) (nq _ _)) ?_))))));rfl
section
variable {R:aj5} {full:X} {lf lf':aj2} {E:X->X->gB} {x:a9} {c:X}
theorem PP (a:iX R full lf E x c) {lf':aj2} {k p q:X} (b:k<R.length) (e:p<R.length) (f:q<R.length) (aq:lf.getD k bp=bq) (g:lf.getD p bp=bq) (h:lf.getD q bp=bq) {d:ez} (i:cW P) (j:cW d):z8 ((k:Z),(p:Z),(q:Z),aB P,aB d,Y (Y (cD R full lf' (eI R.length E))),())=Y (aB (cR (cJ (x.s (R.getD k 0) (R.getD p 0)) P) (dc (cJ (x.s (R.getD k 0) (R.getD q 0)) d))),()):=by obtain⟨t,l,v⟩:=a.r.ent k p b e aq g;obtain⟨u,m,w⟩:=a.r.ent k q b f aq h;have n:=a.r.okd _ (a.r.mem b aq) _ (a.r.mem e g);have o:=a.r.okd _ (a.r.mem b aq) _ (a.r.mem f h);unfold z8;dsimp only;refine ai (y:=Y (cD R full lf' (eI R.length E))) rfl (ai (y:=cD R full lf' (eI R.length E)) rfl (ai (y:=t) (by rw[hY];exact l) (ai (y:=aB _) (by grind [hY]) (ai (qw n i) ?_))));refine ai (y:=Y (cD R full lf' (eI R.length E))) rfl (ai (y:=cD R full lf' (eI R.length E)) rfl (ai (y:=u) (by rw[hY];exact m) (ai (y:=aB _) (by grind [hY]) (ai (qw o j) (ai (Iq (nq _ _) (nq _ _)) rfl)))))
theorem WG (A:iX R full lf E x c) (gf:c+4<1048576) {p:X} (mz:p<full) (a0:lf.getD p bp=bq) (ne:a<full) (a3:lf.getD a bp=bq) (nd:p≠a) (d4:lf'.length=lf.length) (d3:∀g,g<R.length->lf'.getD g bp=(lf.getD g bp&&br (g∉[p,a]))) (d1:x.fin (R.getD p 0)) (gl:x.fin (R.getD a 0)):ae (z7 (cD R full lf' (eI R.length E),(p:Z),(a:Z),x.ks [R.getD p 0,R.getD a 0],())) λJ=>
  ((x.dd [R.getD p 0,R.getD a 0]).fin/\∃E',J=(cD R full lf' (eI R.length E'),(x.dd [R.getD p 0,R.getD a 0]).eL.map hX,0,())/\iX R full lf' E' (x.elim [R.getD p 0,R.getD a 0]) (c+4))\/(¬(x.dd [R.getD p 0,R.getD a 0]).fin/\J.2.2.1=233/\J.2.1=[]):=by
 have mo:=A.r.fl;have V:=A.r.sm;have bl:p<R.length:=aa;have bx:a<R.length:=aa;have hw:lf'.length=R.length:=d4.trans A.r.ll;have B:∀g∈e1 lf' R.length,g<R.length/\lf.getD g bp=bq:=λg n=>(by obtain⟨f8,f9⟩:=x9.1 n;grind);have U:(e1 lf' R.length).length<=1000:=c4 (Jr _ _) aa;have id:=Pq lf' R.length;have ib:=λ(g:X) (n:g∈e1 lf' R.length) (L K:ez) (Q:cW L) (S:cW K)=>PP A (lf':=lf') (k:=g) (p:=p) (q:=a) (B g n).1 bl bx (B g n).2 a0 a3 Q S;have ic:=λ(g:X) (n:g∈e1 lf' R.length) (L K:ez) (Q:cW L) (S:cW K)=>PP A (lf':=lf') (k:=g) (p:=a) (q:=p) (B g n).1 bx bl (B g n).2 a3 a0 Q S;have ge:=A.r.mem bl a0;have ds:=A.r.mem bx a3;generalize lk:R.getD p 0=j at*;generalize lo:R.getD a 0=i at*;have a4:[p,a].map (λg=>R.getD g 0)=[j,i]:=(by grind);have f7:cE (x.bj j j)≠2047:=d1 j ge;have dg:cE (x.bj i j)≠2047:=d1 i ds;have f2:cE (x.bj i i)≠2047:=gl i ds;have d7:(e1 lf' R.length).map (λg=>R.getD g 0)=x.rows.filter λb=>br (b∉[j,i]):=by
  have:=A.r.rest (lf':=lf') (p:=[p,a]) (λg n=>by
   grind) d3 (bd _)
  rw[<-A.r.rows,a4] at this;grind [Fl]
 generalize ap:(λb=>gS (cR (cJ (x.s b j) (aX (x.bj i i))) (dc (cJ (x.s b i) (aX (x.bj i j))))) (ja (x.ks [j,i])) 0)=o;generalize av:(λb=>gS (cR (cJ (x.s b i) (aX (x.bj j j))) (dc (cJ (x.s b j) (aX (x.bj i j))))) (ja (x.ks [j,i])) 0)=t;have d6:(x.dd [j,i]).l=[o,t]:=(by rw[<-ap,<-av];rfl);have hv:x.lc [j,i]=[o,t]:=d6;have ii:(x.dd [j,i]).rows=(e1 lf' R.length).map (λg=>R.getD g 0):=d7.symm;have lt:(x.dd [j,i]).eL=[((e1 lf' R.length).map (λg=>R.getD g 0),o),((e1 lf' R.length).map (λg=>R.getD g 0),t)]:=(by grind [aP.eL]);have hc:(x.dd [j,i]).fin↔(∀g∈e1 lf' R.length,cE (o (R.getD g 0))≠2047)/\∀g∈e1 lf' R.length,cE (t (R.getD g 0))≠2047:=by
  unfold aP.fin;rw[d6,ii];constructor
  ·exactλd2=>⟨λg n=>d2 o ac _ (eQ.2 ⟨g,n,bn⟩),λg n=>d2 t ac _ (eQ.2 ⟨g,n,bn⟩)⟩
  rintro⟨f8,f9⟩ H N b C;obtain⟨g,n,rfl⟩:=eQ.1 C;rcases fC.1 N with rfl|N
  ·grind
  grind
 have d0:cW (ja (x.ks [j,i])):=qk _ _;have gi:x.ks [j,i]=[x.bj j j,x.bj i j,x.bj i i]:=rfl;unfold z7;dsimp only;refine bz (RR hw V) ?_;dsimp only;refine bz (y:=x.bj j j) rfl (bz (r3 (x.yD _ _)) (bz (y:=x.bj i j) rfl (bz (r3 (x.yD _ _)) (bz (y:=x.bj i i) rfl (bz (r3 (x.yD _ _)) ?_)))));dsimp only;refine bz NH ?_;dsimp only;rw[adN,<-gi];refine bE (FY (v:=λg=>cR (cJ (x.s (R.getD g 0) j) (aX (x.bj i i))) (dc (cJ (x.s (R.getD g 0) i) (aX (x.bj i j))))) V d0 (λg n=>⟨(B g n).1,qk _ _,?_⟩) U) ?_
 ·unfold Dq;dsimp only;refine ai (y:=(Y (Y (cD R full lf' (eI R.length E))),())) rfl (ai (y:=(p:Z)) rfl (ai (y:=(a:Z)) rfl (ai (y:=[aB (aX (x.bj j j)),aB (aX (x.bj i j)),aB (aX (x.bj i i))]) rfl (ai (y:=aB (aX (x.bj i i))) rfl (ai (y:=[aB (aX (x.bj j j)),aB (aX (x.bj i j)),aB (aX (x.bj i i))]) rfl (ai (y:=aB (aX (x.bj i j))) rfl ?_))))));exact ai (ib g n _ _ (iC _) (iC _)) rfl
 rintro J (⟨l2,rfl⟩|⟨⟨g,n,go⟩,P⟩)
 rotate_left
 ·obtain⟨H,f0,f1,_⟩:=J;dsimp only at P;subst P;dsimp only;rw[aZ (by rfl)];grind [bu]
 dsimp only;rw[aW (by rfl),adO];refine bE (FY (v:=λg=>cR (cJ (x.s (R.getD g 0) i) (aX (x.bj j j))) (dc (cJ (x.s (R.getD g 0) j) (aX (x.bj i j))))) V d0 (λg n=>⟨(B g n).1,qk _ _,?_⟩) U) ?_
 ·unfold Dr;dsimp only;refine ai (y:=(Y (Y (cD R full lf' (eI R.length E))),())) rfl (ai (y:=(a:Z)) rfl (ai (y:=(p:Z)) rfl (ai (y:=[aB (aX (x.bj j j)),aB (aX (x.bj i j)),aB (aX (x.bj i i))]) rfl (ai (y:=aB (aX (x.bj j j))) rfl (ai (y:=[aB (aX (x.bj j j)),aB (aX (x.bj i j)),aB (aX (x.bj i i))]) rfl (ai (y:=aB (aX (x.bj i j))) rfl ?_))))));exact ai (ic g n _ _ (iC _) (iC _)) rfl
 rintro J (⟨mc,rfl⟩|⟨⟨g,n,go⟩,P⟩)
 rotate_left
 ·obtain⟨H,f0,f1,_⟩:=J;dsimp only at P;subst P;dsimp only;rw[aZ (by rfl)];grind [bu]
 dsimp only;rw[aW (by rfl)];have f3:(λg=>gS (cR (cJ (x.s (R.getD g 0) j) (aX (x.bj i i))) (dc (cJ (x.s (R.getD g 0) i) (aX (x.bj i j))))) (ja (x.ks [j,i])) 0)=λg=>o (R.getD g 0):=(by rw[<-ap]);have f5:(λg=>gS (cR (cJ (x.s (R.getD g 0) i) (aX (x.bj j j))) (dc (cJ (x.s (R.getD g 0) j) (aX (x.bj i j))))) (ja (x.ks [j,i])) 0)=λg=>t (R.getD g 0):=(by rw[<-av]);have f4:(λg=>aB (aX (gS (cR (cJ (x.s (R.getD g 0) j) (aX (x.bj i i))) (dc (cJ (x.s (R.getD g 0) i) (aX (x.bj i j))))) (ja (x.ks [j,i])) 0)))=λg=>aB (aX (o (R.getD g 0))):=(by rw[<-ap]);have f6:(λg=>aB (aX (gS (cR (cJ (x.s (R.getD g 0) i) (aX (x.bj j j))) (dc (cJ (x.s (R.getD g 0) j) (aX (x.bj i j))))) (ja (x.ks [j,i])) 0)))=λg=>aB (aX (t (R.getD g 0))):=(by rw[<-av]);have gs:∀g∈e1 lf' R.length,cE (o (R.getD g 0))≠2047:=λg n=>(by grind);have gt:∀g∈e1 lf' R.length,cE (t (R.getD g 0))≠2047:=λg n=>(by grind);rw[f3,f5,f4,f6];generalize mp:e1 lf' R.length=m at*;have am:=λ(E:X->X->gB) (an:X->X->ez) (L K:X->ez) (gc:∀b∈m,∀h∈m,E b h=aB (an b h)) (io:∀b∈m,∀h∈m,cW (an b h)) (Q:∀b,cW (L b)) (S:∀b,cW (K b))=>
  SW (R:=R) (full:=full) (lf:=lf') (E:=E) (l:=m) (s:=an) (u:=L) (v:=K) V (λg n=>(B g n).1) id U gc io (λb _=>Q b) (λb _=>S b)
 have ci:∀{E:X->X->gB} {s':X->X->ez},∀b∈m,∀h∈m,(if b∈m/\h∈m then aB (s' b h) else E b h)=aB (s' b h):=λb C h F=>aw ⟨C,F⟩;generalize ce:(λb h=>x.s (R.getD b 0) (R.getD h 0))=z;generalize d8:(λg=>cJ (aX (o (R.getD g 0))) (aX (x.bj j j)))=w;generalize d9:(λg=>cJ (aX (o (R.getD g 0))) (aX (x.bj i j)))=D;generalize ek:(λg=>cJ (aX (t (R.getD g 0))) (aX (x.bj i j)))=G;generalize el:(λg=>cJ (aX (t (R.getD g 0))) (aX (x.bj i i)))=T;generalize em:(λg=>aX (o (R.getD g 0)))=v1;generalize eq:(λg=>aX (t (R.getD g 0)))=fe;have ft:∀b,cW (v1 b):=λb=>(by grind [iC]);have fz:∀b,cW (fe b):=λb=>(by grind [iC]);have ix:∀b,cW (w b):=λb=>(by grind [nq]);have i0:∀b,cW (D b):=λb=>(by grind [nq]);have i2:∀b,cW (G b):=λb=>(by grind [nq]);have i3:∀b,cW (T b):=λb=>(by grind [nq]);have lb:m.map (λg=>aB (aX (o (R.getD g 0))))=m.map λg=>aB (v1 g):=(by rw[<-em]);have le:m.map (λg=>aB (aX (t (R.getD g 0))))=m.map λg=>aB (fe g):=(by rw[<-eq]);have ad:=λ(fT:X->Z) (c2:Z)=>SA (l:=m) (f:=fT) (d:=aX c2) (iC c2) U;have i8:=am E z w v1 (λb C h F=>by rw[<-ce];exact A.e (B b C).1 (B h F).1 (B b C).2 (B h F).2) (λb C h F=>by rw[<-ce];exact A.r.okd _ (A.r.mem (B b C).1 (B b C).2) _ (A.r.mem (B h F).1 (B h F).2)) ix ft;have jp:=am _ (λb h=>cR (z b h) (dc (cJ (w b) (v1 h)))) D fe (ci (E:=E) (s':=λb h=>cR (z b h) (dc (cJ (w b) (v1 h))))) (λb _ h _=>qk _ _) i0 fz;have kd:=am _ (λb h=>cR (cR (z b h) (dc (cJ (w b) (v1 h)))) (dc (cJ (D b) (fe h)))) G v1 (ci (E:=λb h=>if b∈m/\h∈m then aB (cR (z b h) (dc (cJ (w b) (v1 h)))) else E b h) (s':=λb h=>cR (cR (z b h) (dc (cJ (w b) (v1 h)))) (dc (cJ (D b) (fe h))))) (λb _ h _=>qk _ _) i2 ft;have kg:=am _ (λb h=>cR (cR (cR (z b h) (dc (cJ (w b) (v1 h)))) (dc (cJ (D b) (fe h)))) (dc (cJ (G b) (v1 h)))) T fe (ci (E:=λb h=>if b∈m/\h∈m then aB (cR (cR (z b h) (dc (cJ (w b) (v1 h)))) (dc (cJ (D b) (fe h)))) else if b∈m/\h∈m then aB (cR (z b h) (dc (cJ (w b) (v1 h)))) else E b h) (s':=λb h=>cR (cR (cR (z b h) (dc (cJ (w b) (v1 h)))) (dc (cJ (D b) (fe h)))) (dc (cJ (G b) (v1 h))))) (λb _ h _=>qk _ _) i3 fz;have co:=ad (λg=>o (R.getD g 0)) (x.bj j j);have cs:=ad (λg=>o (R.getD g 0)) (x.bj i j);have cv:=ad (λg=>t (R.getD g 0)) (x.bj i j);have c1:=ad (λg=>t (R.getD g 0)) (x.bj i i);rw[show m.map (λg=>aB (cJ (aX (o (R.getD g 0))) (aX (x.bj j j))))=m.map λg=>aB (w g) by rw[<-d8]] at co;rw[show m.map (λg=>aB (cJ (aX (o (R.getD g 0))) (aX (x.bj i j))))=m.map λg=>aB (D g) by rw[<-d9]] at cs;rw[show m.map (λg=>aB (cJ (aX (t (R.getD g 0))) (aX (x.bj i j))))=m.map λg=>aB (G g) by rw[<-ek]] at cv;rw[show m.map (λg=>aB (cJ (aX (t (R.getD g 0))) (aX (x.bj i i))))=m.map λg=>aB (T g) by rw[<-el]] at c1;rw[lb] at co cs|-;rw[le] at cv c1|-;refine bz (y:=aB (aX (x.bj j j))) rfl (bz co (bz i8 ?_));refine bz (y:=aB (aX (x.bj i j))) rfl (bz cs (bz jp ?_));refine bz (y:=aB (aX (x.bj i j))) rfl (bz cv (bz kd ?_));refine bz (y:=aB (aX (x.bj i i))) rfl (bz c1 (bz kg ?_));refine bu.2 (.inl ⟨hc.2 ⟨gs,gt⟩,(λb h=>if b∈m/\h∈m then aB (cR (cR (cR (cR (z b h) (dc (cJ (w b) (v1 h)))) (dc (cJ (D b) (fe h)))) (dc (cJ (G b) (v1 h)))) (dc (cJ (T b) (fe h)))) else(λb h=>if b∈m/\h∈m then aB (cR (cR (cR (z b h) (dc (cJ (w b) (v1 h)))) (dc (cJ (D b) (fe h)))) (dc (cJ (G b) (v1 h)))) else(λb h=>if b∈m/\h∈m then aB (cR (cR (z b h) (dc (cJ (w b) (v1 h)))) (dc (cJ (D b) (fe h)))) else if b∈m/\h∈m then aB (cR (z b h) (dc (cJ (w b) (v1 h)))) else E b h) b h) b h),?_,?_⟩)
 ·grind [Nl]
 have hi:∀b O,AT (x.ks [j,i]) (x.lc [j,i]) b O=cR (cR (cR (kk (o b) (x.bj j j) (o O)) (kk (o b) (x.bj i j) (t O))) (kk (t b) (x.bj i j) (o O))) (kk (t b) (x.bj i i) (t O)):=λb O=>(by rw[hv];rfl);have dl:∀M:X,M=65536->∀b∈x.rows.filter (λb=>br (b∉[j,i])),∀h∈x.rows.filter (λb=>br (b∉[j,i])),
  cR (cR (cR (cR (x.s b h) (dc (kk (o b) (x.bj j j) (o h)))) (dc (kk (o b) (x.bj i j) (t h)))) (dc (kk (t b) (x.bj i j) (o h)))) (dc (kk (t b) (x.bj i i) (t h)))=(x.elim [j,i]).s b h/\cC M 3222 3072 (c+4) ((x.elim [j,i]).s b h):=by
  intro M I b C h F;have d5:∀H,H∈x.rows.filter (λb=>br (b∉[j,i]))->H∈x.rows/\cE (o H)≠2047/\cE (t H)≠2047:=λH N=>(by refine⟨(hU.1 N).1,?_⟩;rw[<-d7] at N;obtain⟨g,n,rfl⟩:=eQ.1 N;grind);obtain⟨i1,fn,fp⟩:=d5 b C;obtain⟨is,fr,fs⟩:=d5 h F;have:=cC.afB I (A.ex M I b i1 h is) (cC.kk I fn f7 fr) (cC.kk I fn dg fs) (cC.kk I fp dg fr) (cC.kk I fp f2 fs) gf;rw[<-hi] at this;exact this
 have mt:=A.next (lf':=lf') (p:=[p,a]) (λg n=>by
  rcases fC.1 n with rfl|n
  ·grind
  grind) (by grind) d4 d3 (E':=λb h=>if b∈m/\h∈m then aB (cR (cR (cR (cR (z b h) (dc (cJ (w b) (v1 h)))) (dc (cJ (D b) (fe h)))) (dc (cJ (G b) (v1 h)))) (dc (cJ (T b) (fe h)))) else(λb h=>if b∈m/\h∈m then aB (cR (cR (cR (z b h) (dc (cJ (w b) (v1 h)))) (dc (cJ (D b) (fe h)))) (dc (cJ (G b) (v1 h)))) else(λb h=>if b∈m/\h∈m then aB (cR (cR (z b h) (dc (cJ (w b) (v1 h)))) (dc (cJ (D b) (fe h)))) else if b∈m/\h∈m then aB (cR (z b h) (dc (cJ (w b) (v1 h)))) else E b h) b h) b h) (c':=c+4) (λb h C F nn no=>by
   have hr:b∈m:=(by grind [x9]);have hs:h∈m:=(by grind [x9]);rw[a4];dsimp only;rw[b8 ⟨hr,hs⟩,<-(dl 65536 bn (R.getD b 0) (by grind) (R.getD h 0) (by grind)).1,<-ce,<-d8,<-d9,<-ek,<-el,<-em,<-eq];rfl) (by
   rw[a4];intro M I b C h F;exact(dl M I b C h F).2)
 grind
end
end
section
theorem M7 {x:a9}:∀{d b:aj5},x.iO d=Y b->∀c∈b,x.fin c
 |[],b,a,c,f=>by grind [a9.iO]
 |q::d,b,a,c,f=>by
  rw[a9.iO] at a;split at a
  ·cases a
  rename_i e;have e:=apv.1 e;split at a
  ·grind
  split at a
  ·grind
  rename_i h g;split at a
  ·exact M7 a c f
  grind
abbrev wU:=bv (Z×((bm aL×bt)×(bm (bv (bm (Z×de)×X))×bt)))
abbrev G5:=wU×(aL×(aL×(aL×(bm eH×df))))
def lI (b:wU) (a:bm aP) (del:X):G5:=(b,(cZ (a.flatMap aP.aY),(a.map (λc=>(c.aY.length:Z)),(a.flatMap aP.d,((a.flatMap aP.eL).map hX,((del:Z),()))))))
def G4 (a:bm aP):Prop:=(a.flatMap aP.aY).length<=1000/\a.length<=1000/\(a.flatMap aP.d).length<=10000/\(a.flatMap aP.eL).length<=10000
def iD (lf:aj2) (c:aj5):aj2:=c.foldl (λb a=>b.set a bp) lf
theorem aah (lf:aj2) (b:aj5) (a:X):iD lf (b++[a])=(iD lf b).set a bp:=by grind [iD]
theorem J3 (a:aj5):∀lf:aj2,(iD lf a).length=lf.length:=by
 induction a with
 |nil=>intro lf;rfl
 |cons c a b=>
  grind [ams,iD,lf]
theorem aag (b:aj5):∀(lf:aj2) {a:X},a<lf.length->(iD lf b).getD a bp=(lf.getD a bp&&br (a∉b)):=by
 induction b with
 |nil=>grind [iD,lf]
 |cons c b e=>
  intro lf a d;show(iD (lf.set c bp) b).getD a bp=_;grind
section
variable {R:aj5} {full:X} {lf:aj2} {E:X->X->gB} {x:a9} {c:X}
def mg (x:a9) (a:aj5) (c:X):aj6:=(bJ c).flatMap λb=>(bJ (b+1)).map λd=>x.bj (a.getD b 0) (a.getD d 0)
def iX.value (d:iX R full lf E x c) (e:a<R.length) (f:b<R.length) (h:lf.getD a bp=bq) (i:lf.getD b bp=bq) (g:aj2):s7 (Y (cD R full g (eI R.length E)),(a:Z),(b:Z),())=Y (x.bj (R.getD a 0) (R.getD b 0),()):=by obtain⟨l,j,k⟩:=d.r.ent a b e f h i;unfold s7;dsimp only;refine ai (y:=cD R full g (eI R.length E)) rfl (ai (y:=l) (by rw[hY];exact j) (ai (y:=aB _) (by rw[hY];exact k) ?_));exact ai (NQ (d.r.okd _ (d.r.mem e h) _ (d.r.mem f i))) rfl
theorem WP (u:iX R full lf E x c) (M:c+4<1048576) (p:∀b∈f,b<full/\lf.getD b bp=bq) (dl:0<f.length) (N:x.choose=Y (f.map λb=>R.getD b 0)) (n:wU) {g:bm aP} (am:G4 g) (del:X):ae (Dx (lI n g del,cD R full lf (eI R.length E),cZ f,())) λh=>
  ((x.dd (f.map λb=>R.getD b 0)).fin/\∃B j,h=(lI n (g++[x.dd (f.map λb=>R.getD b 0)]) del,cD R full B (eI R.length j),0,())/\iX R full B j (x.elim (f.map λb=>R.getD b 0)) (c+4))\/(¬(x.dd (f.map λb=>R.getD b 0)).fin/\h.2.2.1=233):=by
 have d2:=u.r.fl;have a0:=u.r.ll;have F:=M7 N;have O:=CO N;have S:∀b∈f,b<R.length:=λb o=>(by grind);have d6:f.length<=2:=by rcases O with k|⟨e,k,_⟩|⟨e,s,k,_⟩<;>have:=b6 cz k<;>simp only[eP,iv,p5] at this<;>omega
 have G:al (cZ f)=(f.length:Z):=(by rw[a7,jI]);have d9:=u.r.sm;obtain⟨cs,cv,c1,c2⟩:=am;have d3:∀e,e<f.length->(f.map λb=>R.getD b 0).getD e 0=R.getD (f.getD e 0) 0:=λe q=>(by grind);have d7:∀e,(q:e<f.length)->f.getD e 0=f[e]:=λe q=>(by grind);generalize v:(f.map λb=>R.getD b 0)=a at*;have w:a.length=f.length:=(by grind);unfold Dx lI;dsimp only;refine bE (P:=λi=>i=((n,(cZ (g.flatMap aP.aY++a),(g.map (λi=>(i.aY.length:Z)),(g.flatMap aP.d,((g.flatMap aP.eL).map hX,((del:Z),())))))),cD R full (iD lf f) (eI R.length E),mg x a f.length,())) ?_ ?_
 ·refine bQ f.length (λe i=>i=((e:Z),(n,(cZ (g.flatMap aP.aY++a.take e),(g.map (λi=>(i.aY.length:Z)),(g.flatMap aP.d,((g.flatMap aP.eL).map hX,((del:Z),())))))),cD R full (iD lf (f.take e)) (eI R.length E),mg x a e,())) ?_ ?_ ?_
  ·rw[alV,alV,oq];rfl
  rotate_left
  ·rintro _ rfl;dsimp only;rw[G,aW (aA (aa:¬(f.length:Z)<(f.length:Z))),cB,<-w,cB];grind [bu]
  rintro e _ q rfl;dsimp only;rw[G,aZ (aF (aa:(e:Z)<(f.length:Z))),bc aa];have T:=b3 q;have Q:=S _ T;have av:=(p _ T).2;refine bE (P:=λi=>i=((n,(cZ (g.flatMap aP.aY++a.take e),(g.map (λi=>(i.aY.length:Z)),(g.flatMap aP.d,((g.flatMap aP.eL).map hX,((del:Z),())))))),cD R full (iD lf (f.take e)) (eI R.length E),mg x a (e+1),())) ?_ ?_
  ·refine bQ (e+1) (λs i=>i=((s:Z),(n,(cZ (g.flatMap aP.aY++a.take e),(g.map (λi=>(i.aY.length:Z)),(g.flatMap aP.d,((g.flatMap aP.eL).map hX,((del:Z),())))))),cD R full (iD lf (f.take e)) (eI R.length E),mg x a e++(bJ s).map (λm=>x.bj (a.getD e 0) (a.getD m 0)),())) ?_ ?_ ?_
   ·grind
   ·rintro s _ d1 rfl;dsimp only;rw[aZ (aF (aa:(s:Z)<((e+1:X):Z))),bc aa];have L:s<f.length:=aa;have U:=b3 L;refine bz (qK q) (bz (qK L) (bz (u.value Q (S _ U) av (p _ U).2 _) ?_));dsimp only;have an:(mg x a e).length<=100:=by
     have:e=0\/e=1:=aa;rcases this with rfl|rfl
     ·exact(by decide:(0:X)<=100)
     exact(by decide:(1:X)<=100)
    rw[eS (by grind),aE];grind [akD,ald,apF,bu]
   rintro _ rfl;dsimp only;rw[aW (aA (aa:¬((e+1:X):Z)<((e+1:X):Z)))];grind [akD,bu,mg,bJ]
  rintro _ rfl;dsimp only;refine bz (qK q) ?_;have a4:(cD R full (iD lf (f.take e)) (eI R.length E)).2.2.1=iD lf (f.take e):=rfl;have d5:(iD lf (f.take e)).length=R.length:=(J3 _ _).trans a0;rw[a4];refine bz (fc aa) ?_;rw[hC (bX (aa:f[e]<(iD lf (f.take e)).length))];refine bz bn (bz (qK q) ?_);dsimp only;have bl:(cD R full (iD lf (f.take e)) (eI R.length E)).1=cZ R:=rfl;rw[bl,yC Q,eS (by grind [aor,jI,akG,akv]),bK];refine bu.2 ?_;have ao:f.take (e+1)=f.take e++[f[e]]:=(by simp_all);have ad:a.take (e+1)=a.take e++[R[f[e]]]:=(by grind [akd,bX]);rw[ao,ad,aah,<-ald,vV (g.flatMap aP.aY++a.take e)];rfl
 rintro _ rfl;dsimp only;have an:(mg x a f.length).length<=100:=by
  have:f.length=1\/f.length=2:=aa;rcases this with k|k<;>rw[k]
  ·exact(by decide:(1:X)<=100)
  exact(by decide:(3:X)<=100)
 rw[G,eS (by grind),aE,eS aa,aE];have A:∀b,b<R.length->(iD lf f).getD b bp=(lf.getD b bp&&br (b∉f)):=λb o=>aag f lf aa;have t:∀(h:c5×bm eH×Z×bt),((x.dd a).fin/\∃j,h=(cD R full (iD lf f) (eI R.length j),(x.dd a).eL.map hX,0,())/\iX R full (iD lf f) j (x.elim a) (c+4))\/(¬(x.dd a).fin/\h.2.2.1=233/\h.2.1=[])->mg x a f.length=x.ks a->
  (h.2.1.length<=1000)->
  ae ((cI (((g.flatMap aP.eL).map hX).length+h.2.1.length)).bind λ_=>Y (((n,(cZ (g.flatMap aP.aY++a),((g.map (λi=>(i.aY.length:Z))++[(f.length:Z)]),(g.flatMap aP.d++mg x a f.length,((g.flatMap aP.eL).map hX++h.2.1,((del:Z),())))))):G5),h.1,h.2.2.1,())) λh=>
  ((x.dd a).fin/\∃B j,h=(lI n (g++[x.dd a]) del,cD R full B (eI R.length j),0,())/\iX R full B j (x.elim a) (c+4))\/(¬(x.dd a).fin/\h.2.2.1=233):=by
  rintro h l z d8;rw[eS (by grind),aE];refine bu.2 ?_;rcases l with⟨J,j,rfl,K⟩|⟨J,K⟩
  ·refine .inl ⟨J,iD lf f,j,?_,K⟩;unfold lI;rw[z,nE,nE,nE,jR,jR];simp only[ot,apG,oq,gW,sD];show _=((n,(cZ (g.flatMap aP.aY++a),((g.map (λi=>(i.aY.length:Z))++[(a.length:Z)]),(g.flatMap aP.d++x.ks a,((g.flatMap aP.eL).map hX++(x.dd a).eL.map hX,((del:Z),())))))),_,_,());rw[w]
  grind
 rcases O with k|⟨V,k,_⟩|⟨V,co,k,ds,d0,d4⟩
 ·grind
 ·rw[k] at w
  match f,w,p,v,A,t with
  |[b],_,p,v,A,t=>
   obtain⟨H,I⟩:=p b ac;have o:a=[R.getD b 0]:=v.symm;rw[aZ (by rfl)];have C:=afe u M H I (lf':=iD lf [b]) (J3 _ _) A (F _ (by grind));rw[<-o] at C;have z:mg x a 1=[x.bj (R.getD b 0) (R.getD b 0)]:=(by rw[o];rfl);refine bE (P:=λi=>∃h:c5×bm eH×Z×bt,(((x.dd a).fin/\∃j,h=(cD R full (iD lf [b]) (eI R.length j),(x.dd a).eL.map hX,0,())/\iX R full (iD lf [b]) j (x.elim a) (c+4))\/(¬(x.dd a).fin/\h.2.2.1=233/\h.2.1=[]))/\i=(h.2.2.1,h.2.1,(n,(cZ (g.flatMap aP.aY++a),((g.map (λi=>(i.aY.length:Z))++[((1:X):Z)]),(g.flatMap aP.d++mg x a 1,((g.flatMap aP.eL).map hX,((del:Z),())))))),h.1,())) ?_ ?_
   ·refine bz (y:=(b:Z)) rfl ?_;have a3:∀{ci:Type} (D:Z->bv ci),rd (mg x a 1) 0 D=D (x.bj (R.getD b 0) (R.getD b 0)):=λD=>(by rw[z];rfl);show ae (rd (mg x a 1) 0 _) _;rw[a3];refine bE C ?_;rintro h l;exact bu.2 ⟨h,l,bn⟩
   rintro _ ⟨h,l,rfl⟩;dsimp only;refine t h l (by rw[o];rfl) ?_;rcases l with⟨_,j,rfl,_⟩|⟨_,_,k⟩
   ·show((x.dd a).eL.map hX).length<=1000;rw[o,eP];show 1<=1000;decide
   grind
 rw[k] at w
 match f,w,p,v,A,t with
 |[b,m],_,p,v,A,t=>
  obtain⟨H,I⟩:=p b ac;obtain⟨bx,ce⟩:=p m ac;have o:a=[R.getD b 0,R.getD m 0]:=v.symm;have ap:b≠m:=λdg=>(by grind);rw[aW (by rfl)];have C:=WG u M H I bx ce ap (lf':=iD lf [b,m]) (J3 _ _) A (F _ (by grind)) (F _ (by grind));rw[<-o] at C;have z:mg x a 2=x.ks a:=(by rw[o];rfl);refine bE (P:=λi=>∃h:c5×bm eH×Z×bt,(((x.dd a).fin/\∃j,h=(cD R full (iD lf [b,m]) (eI R.length j),(x.dd a).eL.map hX,0,())/\iX R full (iD lf [b,m]) j (x.elim a) (c+4))\/(¬(x.dd a).fin/\h.2.2.1=233/\h.2.1=[]))/\i=(h.2.2.1,h.2.1,(n,(cZ (g.flatMap aP.aY++a),((g.map (λi=>(i.aY.length:Z))++[((2:X):Z)]),(g.flatMap aP.d++mg x a 2,((g.flatMap aP.eL).map hX,((del:Z),())))))),h.1,())) ?_ ?_
  ·refine bz (y:=(b:Z)) rfl (bz (y:=(m:Z)) rfl ?_);show ae ((z7 (cD R full (iD lf [b,m]) (eI R.length E),(b:Z),(m:Z),mg x a 2,())).bind _) _;rw[z];refine bE C ?_;rintro h l;exact bu.2 ⟨h,l,by grind⟩
  rintro _ ⟨h,l,rfl⟩;dsimp only;refine t h l z ?_;rcases l with⟨_,j,rfl,_⟩|⟨_,_,k⟩
  ·show((x.dd a).eL.map hX).length<=1000;rw[o,eP];show 2<=1000;decide
  grind
end
end
section
section
variable {R:aj5} {full:X}
structure Us (R:aj5) (full:X) (B5:a9) (n uS:X) (m:wU) (ps0:bm aP) (del:X) (lf:aj2) (E:X->X->gB) (y:a9) (ps:bm aP) (k:X):Prop where
 x:iX R full lf E y (uS+4*ps.length)
 w:lV y
 lt:y.full<k
 pl:ps.length+y.full<=B5.full
 run:a9.run n B5=(a9.run k y).map λq=>(q.1,ps++q.2)
 b:(ps.flatMap aP.aY).length+y.full=B5.full/\(ps.flatMap aP.d).length<=3*ps.length/\(ps.flatMap aP.eL).length=(ps.flatMap aP.aY).length
theorem adG {m:a9} {lf:aj2} {E:X->X->gB} (D:iX R full lf E m g) (bs:lV m) (dg:g+4*m.full+4<1048576) (a3:m.full<a) (q:wU) {ps0:bm aP} (d1:m.full<=100) (c2:(ps0.flatMap aP.aY).length<=500/\ps0.length<=500/\(ps0.flatMap aP.d).length<=5000/\(ps0.flatMap aP.eL).length<=5000) {del:X} (d0:del<=1000000):ae (Dz (lI q ps0 del,cD R full lf (eI R.length E),())) λo=>
  (∃c i e f s,a9.run a m=Y (c,i)/\o=(lI q (ps0++i) (del+c.full),cD R full e (eI R.length f),0,())/\iX R full e f c s/\s<=g+4*m.full)\/(a9.run a m=bo/\o.2.2.1=233):=by
 have d2:=D.r.fl;have d9:=D.r.sm;unfold Dz;dsimp only;refine bE (P:=λj=>(∃c i e f s,a9.run a m=Y (c,i)/\j=.inl (lI q (ps0++i) del,cD R full e (eI R.length f),())/\iX R full e f c s/\s<=g+4*m.full/\c.full<=m.full)\/(a9.run a m=bo/\∃o:G5×c5×Z×bt,j=.inr o/\o.2.2.1=233)) ?_ ?_
 ·refine akn (λj=>∃e f c i k,j=(lI q (ps0++i) del,cD R full e (eI R.length f),())/\Us R full m a g q ps0 del e f c i k) (λj=>(j.2.1.2.2.1.filter λp=>p).length) ⟨lf,E,m,[],a,by rw[List.append_nil],D,bs,a3,ac,ac,ac⟩ ?_;rintro _ ⟨e,f,c,i,k,rfl,l⟩;dsimp only;have d6:=l.lt;have d7:=l.pl;obtain⟨k,rfl⟩:∃co,k=co+1:=⟨k-1,aa⟩;refine bE l.x.r.choose ?_;rintro o (⟨L,M⟩|⟨h,rfl,Q,t⟩)
  ·obtain⟨V,p,_⟩:=o;dsimp only at L;subst L;dsimp only;rw[aZ (by rfl)];refine bu.2 (.inr ⟨?_,_,bn,bn⟩);rw[l.run,Ge M];rfl
  dsimp only;rw[aW (by rfl),a7,jI];by_cases C:h=[]
  ·subst C;rw[aZ (by rfl)];refine bu.2 (.inl ⟨c,i,e,f,_,?_,bn,l.x,aa,aa⟩);rw[l.run,BJ t];simp
  have T:0<h.length:=uz.2 C;rw[aW (by rw[fY,aA aa])];obtain⟨i1,ek,el⟩:=l.b;have an:G4 (ps0++i):=(by grind [akG,G4]);have u:=CO t;have ci:0<c.full:=(by have a0:=Q _ (cF T);have:=l.x.r.PL (k:=h[0]) aa a0.2;grind);refine bE (WP l.x aa Q T t q an del) ?_;rintro o (⟨y,A,kl,rfl,v⟩|⟨y,z⟩)
  ·dsimp only;rw[aW (by rfl)];have N:∀(lf:aj2) (c:a9) (K:X) (E:X->X->gB),iX R full lf E c K->(lf.filter λp=>p).length=c.rows.length:=λlf c K E U=>by
    rw[U.r.rows,Fl,eP];unfold e1;rw[<-U.r.ll];have:lf=(bJ lf.length).map λk=>lf.getD k bp:=by refine ij λk=>?_;grind
    conv=>lhs;rw[this]
    rw[anA,eP];rfl
   have ad:(h.map λk=>R.getD k 0).length=h.length:=eP _;have d5:h.length<=c.full:=(by obtain⟨G,I⟩:=u.props;have:=G.length_le_of_subset I;grind);have d8:(c.elim (h.map λk=>R.getD k 0)).rows.length<c.rows.length:=(by obtain⟨G,I⟩:=u.props;have:=ER l.w.nd G λj a4=>uA (I j a4);show(c.rows.filter _).length<_;omega);refine bu.2 ⟨⟨A,kl,c.elim (h.map λk=>R.getD k 0),i++[c.dd (h.map λk=>R.getD k 0)],k,by rw[kZ],?_,l.w.elim u,?_,?_,?_,?_⟩,?_⟩
   ·grind
   ·show c.full-(h.map λk=>R.getD k 0).length<k;omega
   ·show(i++[_]).length+(c.full-(h.map λk=>R.getD k 0).length)<=_;grind
   ·rw[l.run,yI t aa,aw y];cases a9.run k (c.elim (h.map λk=>R.getD k 0)) with
    |none=>rfl
    |some j=>simp
   ·have H:=l.w.RB u aa y (S:=c.rows) λn O=>O;have F:(c.dd (h.map λk=>R.getD k 0)).aY.length=h.length:=ad;have ap:(c.dd (h.map λk=>R.getD k 0)).eL.length=h.length:=by
     unfold aP.eL;rw[eP,H.len,F]
    have av:=H.dl;have am:=H.at1;simp only[nE,ot,apG,oq,h5,rj];rw[F,ap];rw[F] at av am;refine⟨?_,?_,aa⟩
    ·show _+(c.full-(h.map λk=>R.getD k 0).length)=_;omega
    omega
   show(amn _ (cD R full A _).2.2.1).length<(amn _ (cD R full e _).2.2.1).length;have ao:=N A _ _ _ v;have c1:=N e _ _ _ l.x;show(A.filter λp=>p).length<(e.filter λp=>p).length;omega
  obtain⟨V,p,cv,_⟩:=o;dsimp only at z;subst z;dsimp only;rw[aZ (by rfl)];refine bu.2 (.inr ⟨?_,_,bn,bn⟩);rw[l.run,yI t (by grind),cc y];rfl
 rintro j (⟨c,i,e,f,s,z,rfl,v,ds,ci⟩|⟨z,o,rfl,M⟩)
 rotate_left
 ·grind [bu]
 dsimp only;have bx:=v.r.full;refine bE (P:=λj=>j=(lI q (ps0++i) (del+c.full),cD R full e (eI R.length f),())) ?_ (by grind [bu]);rw[bx];refine bQ full (λn j=>j=((n:Z),lI q (ps0++i) (del+(fi R e n).length),cD R full e (eI R.length f),())) rfl ?_ ?_
 ·rintro n _ O rfl;dsimp only;have J:(cD R full e (eI R.length f)).2.1=(full:Z):=rfl;have ce:(cD R full e (eI R.length f)).2.2.1=e:=rfl;have d4:=v.r.ll;rw[J,aZ (aF (aa:(n:Z)<(full:Z))),bc aa,ce];have bl:∀{cs:Type} (B:bA->bv cs),rd e (n:Z) B=B (e.getD n bp):=λB=>by
   grind [fc,hC,bX,rd]
  rw[bl];have d3:=Jt R e n;refine bE (P:=λj=>j=(lI q (ps0++i) (del+(fi R e (n+1)).length),cD R full e (eI R.length f),())) ?_ (by grind [bu]);rw[ya];cases C:e.getD n bp with
  |true=>
   rw[bG,b8 bn,akG,aor];refine bu.2 ?_;unfold lI;dsimp only;rw[bc aa];rfl
  |false=>
   rw[bP,au ab];grind [bu]
 rintro _ rfl;dsimp only;have J:(cD R full e (eI R.length f)).2.1=(full:Z):=rfl;rw[J,aW (aA (aa:¬(full:Z)<(full:Z)))];grind [bu]
end
end
def r2:fI:=([],([],([],([],([],([],(0,())))))))
def mf (a:bm a9):X:=(a.map a9.full).sum
def qz (c:X->X->ez) (d:aj6) (a:bm eD):fI×Z×bt:=match jb c a a.length with
 |none=>(r2,233,())
 |some b=>(pq d b.2 (mf b.1:Z),0,())
def Og {a:X->X->ez} {b:bm eD} {c:X} (e:jb a b c=bo):∀d,jb a b (c+d)=bo
 |0=>e
 |d+1=>by show(jb a b (c+d)).bind _=bo;rw[Og e d];rfl
theorem NF (a:bm a9) (b:a9):mf (a++[b])=mf a+b.full:=by grind [mf]
theorem Wr {n:X} {L:bm a9} (c:∀b,b<L.length->(L.getD b hP).full<=n):mf L<=n*L.length:=by
 unfold mf;have:∀a∈L,a.full<=n:=λa d=>(by grind [bX,ak0]);clear c
 induction L with
 |nil=>grind
 |cons a L e=>
  grind [an5,Nat.mul_succ]
section
def k7 (n:X):X->X
 |0=>0
 |t+1=>k7 n t+(1+k7 n t+4*n)
theorem NR (n:X):∀t,k7 n t+(4*n+1)=(4*n+1)*2^t
 |0=>by simp[k7]
 |t+1=>by have:=NR n t;grind [Nat.pow_succ,Nat.mul_assoc,k7]
def NS {n t:X} (e:n<=12) (b:t<=12):k7 n t<=200704:=by have c:=NR n t;have a:2^t<=2^12:=sI ab b;have d:=m8 (aa:4*n+1<=49) a;omega
section
variable {l:bm eD} {n t:X} {L:X->a9} {A:X->X->ez}
theorem Oc {L:X->a9} {D:X->X}:∀{cs:aj5} {x:a9} {k:X},(∀c∈cs,wM (D c) (L c))->k+(cs.map D).sum<1048576->(∀a:X,a=65536->∀b d,cC a 3222 3072 k (x.s b d))->∀a:X,a=65536->∀b d,cC a 3222 3072 (k+(cs.map D).sum) ((cs.foldl (λx c=>x.plus (L c)) x).s b d)
 |[],x,k,_,_,f=>by grind
 |c::cs,x,k,g,j,f=>by
  rw[gW,List.sum_cons] at j|-;rw[ano,<-uE];refine Oc (k:=k+D c) (λi l=>g i (by grind)) aa λa e b d=>?_;show cC a 3222 3072 _ (if _ then _ else _);split
  ·rename_i h;exact(cC.add e ab (f a e b d) (g c ac a e b h.1 d h.2) aa).1
  exact(f a e b d).mono (bd _) (bd _) aa
theorem SY (b:X->X) (c:X->bA):∀l:aj5,((l.filter c).map b).sum<=(l.map b).sum
 |[]=>bd _
 |a::l=>by have:=SY b c l;grind
def SX (n:X):∀t,((bJ t).map λa=>1+k7 n a+4*n).sum=k7 n t
 |0=>rfl
 |t+1=>by rw[jB,jR,List.sum_append,SX n t,k7];simp
theorem Xe (j:∀b:X,b=65536->∀c d,cC b 3222 3072 1 (A c d)) (h:n<=12) (i:t<=12) (f:∀a,a<t->wM (1+k7 n a+4*n) (L a)):wM (1+k7 n t) (iN A l L t):=by
 intro b e c _ d _;have o:((e7 l t t).map λa=>1+k7 n a+4*n).sum<=k7 n t:=(by have:=SY (λa=>1+k7 n a+4*n) (λa=>br (gF l a=(t:Z))) (bJ t);rwa[SX] at this);have m:=NS h i;have:=Oc (L:=L) (D:=λa=>1+k7 n a+4*n) (cs:=e7 l t t) (x:=mH A l L t) (k:=1) (λa g=>f a (Ft.1 g).1) aa (λb e c d=>by
  show cC b 3222 3072 1 (if _ then _ else _);split
  ·grind
  exact cC.zero) b e c d
 exact this.mono (bd _) (bd _) aa
theorem XE (g:l.length<=1000) (f:∀d∈l,d.2.2.1.length<=64):DL (l,(),())=Y (bp,()):=by
 have c:DN (l,(),())=Y (-1,()):=by
  unfold DN;refine bO.1 ?_;dsimp only;refine bE (P:=λb=>b=.inl ()) ?_ (by grind [bu]);refine bQ l.length (λa b=>b=((a:Z),())) rfl ?_ ?_
  ·rintro a _ c rfl;dsimp only;rw[a7,aZ (aF (aa:(a:Z)<(l.length:Z))),bc aa];refine bz (y:=l[a]) (by rw[hY,bX c]) ?_;have e:Dl (l[a],())=Y (bp,()):=by
    grind [a7,aA,b3,Dl]
   refine bz e ?_;dsimp only;rw[bP];grind [bu]
  rintro _ rfl;dsimp only;rw[a7,aW (aA (aa:¬(l.length:Z)<(l.length:Z)))];grind [bu]
 unfold DL;grind
end
structure G1 (n t:X) (TX:X->lA) (L:X->a9):Prop where
 p:∀c,c<t->L6 n (TX c) (L c)
 ex:∀c,c<t->wM (1+k7 n c+4*n) (L c)
theorem ade {F:et} {l:bm eD} {n:X} {A:X->X->ez} (o:iu F l) (w:F.length=n) (J:∀u v,cW (A u v)) (dl:∀M:X,M=65536->∀u v,cC M 3222 3072 1 (A u v)) (S:n<=12) {O:w8} (d8:c.length=n) (d2:td (O,c,())=Y (Y (d,(F,()),x,()),0,())) (c2:∀u v:X,u<n->v<n->xP (Y (d,(F,()),x,()),(u:Z),(v:Z),())=Y (aB (A u v),())) (dg:vp ((F,()),l,())=Y (0,())):s6 (O,c,l,())=Y (qz A c l):=by
 have f3:=IP o;have ds:∀t,(z:t<l.length)->ar l (t:Z)=Y ((cG l t:Z),(cG l (t+1):Z),ie l (t:Z),gF l t,()):=λt z=>(by rw[hY];exact(jN.of o w z).g);have el:∀i∈l,i.2.2.1.length<=64:=λi fr=>(by obtain⟨t,q,rfl⟩:=ak0.1 fr;have B:=jN.of o w q;have G:=B.g;rw[bX q] at G;have H:=B.GY;grind [akS,ie,ip]);unfold s6;refine ai d2 ?_;dsimp only;rw[aW (by rfl)];refine ai bn (ai dg ?_);dsimp only;rw[aW (by rfl)];refine ai (XE aa el) ?_;dsimp only;rw[bP,a7,h0 aa,bK];refine bO.1 ?_;generalize f4:(Y (d,(F,()),x,()):wU)=I at*;refine bE (P:=λf=>(jb A l l.length=bo/\f=.inr (r2,233,()))\/∃L h,jb A l l.length=Y (L,h)/\f=.inl (r2,lI I h (mf L),())) ?_ ?_
 ·refine bQ l.length (λt f=>∃L h j,jb A l t=Y (L,h)/\G1 n t j (λa=>L.getD a hP)/\f=((t:Z),r2,lI I h (mf L),az l.length (λe=>(e7 l t e).map λa=>(j a).enc),())) ?_ ?_ ?_
  ·refine⟨[],[],λ_=>⟨[],0,[],[]⟩,bn,⟨λa C=>by omega,λa C=>by omega⟩,?_⟩;rw[iQ];rfl
  rotate_left
  ·rintro _ ⟨L,h,j,z,_,rfl⟩;dsimp only;rw[aW (aA (aa:¬(l.length:Z)<(l.length:Z)))];grind [bu]
  rintro t _ q ⟨L,h,j,d4,R,rfl⟩;dsimp only;rw[aZ (aF (aa:(t:Z)<(l.length:Z))),bc aa];obtain⟨d1,m⟩:=xT J o w aa d4;have B:=jN.of o w q;have ad:=m.zA J B;have fn:=m.MN A J B;have eq:=Xe (l:=l) dl S (aa:t<=12) R.ex;have a3:=Vq o w q m J (aa:n<=64) R.p c2;have co:=jr.start ad aa;have f8:jb A l (t+1)=(a9.run ((iN A l (λa=>L.getD a hP) t).full+1) (iN A l (λa=>L.getD a hP) t)).map λf=>(L++[f.1],h++f.2):=(by grind [jb]);have fp:=ad.full;generalize f7:iN A l (λa=>L.getD a hP) t=b at*;rw[<-ZK] at a3 co;have d3:iX b.rows b.full (bI b.rows.length bq) (λO cs=>aB (b.s (b.rows.getD O 0) (b.rows.getD cs 0))) b (1+k7 n t):=⟨co,eq⟩;have f2:=NS S (aa:t<=12);obtain⟨ay,f9,gc⟩:=RA m.dd;have f6:(h.flatMap aP.aY).length<=n:=(by have H:=m.perm.length_eq;rw[akG,ank] at H;have cv:=B.HF;have c1:=B.HE;omega);have f1:=Wr (n:=n) (L:=L) λa C=>(m.fl aa).1;have f5:n*L.length<=12*12:=anh S aa;have d9:=adG d3 ad aa (akQ _) I (ps0:=h) aa aa (del:=mf L) aa;refine bE (P:=λf=>(jb A l (t+1)=bo/\f=.inr (.inr (.inr (r2,233,()))))\/∃N am T,jb A l (t+1)=Y (N,am)/\G1 n (t+1) T (λa=>N.getD a hP)/\f=.inl (r2,lI I am (mf N),az l.length (λe=>(e7 l (t+1) e).map λa=>(T a).enc),())) ?_ ?_
  rotate_left
  ·rintro _ (⟨G,rfl⟩|⟨N,am,T,G,H,rfl⟩)
   ·dsimp only;refine bu.2 (.inl ⟨?_,bn⟩);have H:=Og G (l.length-(t+1));rwa[(aa:t+1+(l.length-(t+1))=l.length)] at H
   grind [bu]
  refine bz (ds t q) ?_;have ek:∀{ft:Type} (k:X->bm (bv c5)) (U:bm (bv c5)->bv ft),rd (az l.length k) (t:Z) U=U (k t):=λk U=>(by unfold rd;rw[cN,fc q,bK,hC (gR q),bK]);rw[ek];refine bz a3 ?_;dsimp only;refine bE (P:=λf=>(∃i E D y Q,a9.run (b.full+1) b=Y (i,E)/\f=(0,r2,lI I (h++E) (mf L+i.full),az l.length (λe=>(e7 l t e).map λa=>(j a).enc),((cG l t:Z),(cG l (t+1):Z),ie l (t:Z),gF l t,()),cD b.rows b.full D (eI b.rows.length y),())/\iX b.rows b.full D y i Q/\Q<=1+k7 n t+4*b.full)\/(a9.run (b.full+1) b=bo/\f.1=233)) ?_ ?_
  ·rw[aZ (by rfl)];refine bE d9 ?_;rintro ge (⟨i,E,D,y,Q,G,rfl,cv,c1⟩|⟨G,H⟩)
   ·grind [bu]
   grind [bu]
  rintro f (⟨i,E,D,y,Q,em,rfl,a0,fT⟩|⟨em,ci⟩)
  rotate_left
  ·obtain⟨fz,_⟩:=f;dsimp only at ci;subst ci;dsimp only;rw[aZ (by rfl)];refine bu.2 (.inl ⟨by grind,bn⟩)
  dsimp only;rw[aW (by rfl)];have a4:jb A l (t+1)=Y (L++[i],h++E):=(by grind);have bl:∀a,a<t->(L++[i]).getD a hP=L.getD a hP:=λa C=>(by rw[apH,apH,List.getElem?_append_left aa]);have bx:(L++[i]).getD t hP=i:=(by simp_all);generalize ce:(⟨b.rows,b.full,D,eI b.rows.length y⟩:lA)=K;have d7:K.enc=Y (cD b.rows b.full D (eI b.rows.length y)):=(by rw[<-ce];rfl);have av:G1 n (t+1) (λa=>if a=t then K else j a) (λa=>(L++[i]).getD a hP):=by
   refine⟨λa C=>?_,λa C=>?_⟩
   ·by_cases k:a=t
    ·subst k;rw[aw bn,bx,<-ce];exact⟨a0.r,fn⟩
    rw[au k,bl a aa];exact R.p a aa
   by_cases k:a=t
   ·subst k;rw[bx];intro M d0 u d5 v d6;have:=fp;exact(a0.ex M d0 u d5 v d6).mono (bd _) (bd _) aa
   rw[bl a aa];exact R.ex a aa
  have V:∀e,((e7 l t e).map λa=>((if a=t then K else j a):lA).enc)=(e7 l t e).map λa=>(j a).enc:=λe=>iJ λa C=>(by have:=(Ft.1 C).1;rw[au aa]);rcases FSq o w q with⟨an,_⟩|⟨e,an,gf,ap,_⟩
  ·rw[aW (aA (aa:¬gF l t>=0))];refine bu.2 (.inr ⟨L++[i],h++E,_,a4,av,?_⟩);rw[NF];have:(az l.length λe=>(e7 l (t+1) e).map λa=>((if a=t then K else j a):lA).enc)=az l.length λe=>(e7 l t e).map λa=>(j a).enc:=db λe _=>by
    rw[Nc,au aa,V]
   grind
  rw[aZ (aF (aa:gF l t>=0)),an];refine bz (fc (by grind [cN])) ?_;rw[hC (gR ap),aE];have f0:((e7 l t e).map λa=>(j a).enc).length<=1000:=(by rw[eP];have:(e7 l t e).length<=t:=(by unfold e7;grind);omega);rw[eS (by grind),aE];refine bz (fc (by grind [cN])) ?_;rw[aZ ac,hC (gR ap),aE,hC (gR ap),aE];refine bu.2 (.inr ⟨L++[i],h++E,_,a4,av,?_⟩);rw[NF,hx];have:(az l.length λe=>(e7 l (t+1) e).map λa=>((if a=t then K else j a):lA).enc)=az l.length (eB (λe=>(e7 l t e).map λa=>(j a).enc) e (((e7 l t e).map λa=>(j a).enc)++[Y (cD b.rows b.full D (eI b.rows.length y))])):=db λfs _=>by
   rw[Nc];by_cases k:fs=e
   ·subst k;rw[gG,aw an,jR,V,zf,aw bn,d7]
   rw[hb _ _ k,au aa,V]
  grind
 rintro f (⟨z,rfl⟩|⟨L,h,z,rfl⟩)
 ·unfold qz;grind [bu]
 dsimp only;unfold qz;rw[z];obtain⟨d1,m⟩:=xT J o w (cd _) z;refine bz (adq d8 S (m.all o w) m.dd _ I) ?_;grind [bu]
end
section
def Gj (c:X->X->bA) (e d a b:X):bA:=c a b||(br (a=e)&&br (b=d))
theorem Oe {n:X}:az b (eB (λc=>az n (h c)) a (az n (eB (h a) g bq)))=az b (λc=>az n (Gj h a g c)):=
 db λc _=>by grind [hb,db,gG,Gj]
def lM (a:X->X) (b:X):eD:=((a b:Z),(a (b+1):Z),[],-1,())
structure og (G:et) (n j F:X) (c:X->X) (T:X->X->bA):Prop where
 z:c 0=0
 e:c F=j
 m:∀f,f<F->c f<c (f+1)
 t:∀f i,f<F->i<n->(T f i=bq↔∃m,c f<=m/\m<c (f+1)/\(i:Z)∈g4 G m)
theorem ZI (e:∀d,d<a->v d<v (d+1)):∀c b,c<b->b<=a->v c<v b:=by
 intro c b f
 induction b with
 |zero=>omega
 |succ b g=>
  grind
theorem Pj (d:∀c,c<a->v c<v (c+1)):∀b,b<=a->v 0+b<=v b:=by
 intro b
 induction b with
 |zero=>omega
 |succ b e=>
  grind
section
variable {G:et} {n:X} (D:G.length=n) (B:fu G) (H:n<=7) {A:aj6} (C:A.length<=9223372036854775807)
include D B H C
theorem Wp:ae (loop (σ:=(Z×jv×bm gy×bt)) (ρ:=ko) (λ(k,M,H,_)=>
 bif br (k<al (az n (g4 G))) then
 bB (α:=ko) (
 bB (α:=ko) (
 bB (α:=(bA×jv×bm gy×bt)) (bif (k==0)==bp then(vh (A,ax (900+k),())).bind λ(d0,_)=>
 (eN bD d0 7).bind λd3=>
 (jf d3 3).bind λd4=>
 Y (br (d4>0),M,H,()) else Y (bq,M,H,())) λ(d1,N,I,_)=>
  bif d1 then
 (cI (N.length+([(k,(aM k,(([]:bf),((-1:Z),()))))]).length)).bind λ_=>
 (fR (al (az n (g4 G))) (al (az n (g4 G)))).bind λa0=>
 (cI (I.length+([bI a0 bp]).length)).bind λ_=>
 Y ((N++[(k,(aM k,(([]:bf),((-1:Z),()))))]),(I++[bI a0 bp]),()) else
 Y (N,I,())) λ(D,bx,_)=>
 (ba D.length (ax (al D-1))).bind λV=>
 (a1 D V λQ=>Y (D.set V (Q.1,(aM k,Q.2.2)))).bind λd8=>
 (loop (σ:=(Z×jv×bm gy×bt)) (ρ:=ko) (λ(L,av,x,_)=>
 (ar (az n (g4 G)) k).bind λd5=>
  bif br (L<al d5) then
 (ba x.length (ax (al D-1))).bind λK=>
 (ar (az n (g4 G)) k).bind λd6=>
 (ar d6 L).bind λd7=>
 ((a1 x K λa4=>Y a4).bind λbl=>ba bl.length d7).bind λam=>
 (a1 x K λR=>(a1 R am λ_=>Y (R.set am bq)).map λd9=>x.set K d9).bind λek=>
 Y (.inl (aM L,av,ek,())) else
 Y (.inr (av,x,()))) (0,d8,bx,())).bind λ(dg,ce,_)=>
 Y (dg,ce,())) λ(dl,ci,_)=>
 Y (.inl (aM k,dl,ci,())) else
 Y (.inr (M,H,()))) (0,[],[],())) (λds=>∃f h i,og G n n f h i/\ds=(az f (lM h),az f (λa=>az n (i a)),())):=by
 refine bQ n (λc O=>∃f h i,og G n c f h i/\O=((c:Z),az f (lM h),az f (λa=>az n (i a)),())) ⟨0,λ_=>0,λ_ _=>bp,⟨bn,bn,λa u=>absurd u (sH _),λa g u=>absurd u (sH _)⟩,bn⟩ ?_ ?_
 ·rintro c _ J ⟨f,h,i,j,rfl⟩;have ex:=Pj j.m f (cd _);have fl:=j.z;have fn:=j.e;dsimp only;rw[a7,cN,aZ (aF (aa:(c:Z)<(n:Z))),bc aa];refine bE (P:=λs=>∃(b:X) (d:X->X) (l:X->X->bA),d 0=0/\(∀a,a<b->d a<d (a+1))/\d b<=c/\b<=c/\(∀a g,a<b+1->g<n->(l a g=bq↔∃r,d a<=r/\r<eB d (b+1) (c+1) (a+1)/\(g:Z)∈g4 G r))/\s=(az (b+1) (lM (eB d (b+1) (c+1))),az (b+1) (λa=>az n (l a)),())) ?_ ?_
  ·refine bE (P:=λs=>∃(b:X) (d:X->X) (l:X->X->bA) (F:Z),d 0=0/\(∀a,a<b->d a<d (a+1))/\d b<=c/\b<=c/\(∀a g,a<b+1->g<n->(l a g=bq↔∃r,d a<=r/\r<eB d (b+1) c (a+1)/\(g:Z)∈g4 G r))/\s=(az (b+1) (eB (lM d) b ((d b:Z),F,[],-1,())),az (b+1) (λa=>az n (l a)),())) ?_ ?_
   ·refine bE (P:=λs=>∃E:bA,s=(E,az f (lM h),az f (λa=>az n (i a)),())/\(E=bp->0<c)) ?_ ?_
    ·rw[fY];by_cases o:c=0
     ·rw[aW (by simp[o])];grind [bu]
     rw[aZ (by simp[o])];refine bE (Ly A C _) ?_;rintro⟨d2,_⟩ c1;dsimp only at c1|-;obtain⟨a3,c2⟩:∃a3,eN bD d2 7=some a3:=⟨_,b8 ab⟩;refine bz c2 ?_;unfold jf;rw[b8 ab,bK];grind [bu]
    rintro _ ⟨E,rfl,co⟩;dsimp only;cases E with
    |true=>
     rw[bG,eS (by grind [cN]),aE];refine bz (h0 aa) ?_;rw[eS (by grind [cN]),aE];refine bu.2 ⟨f,h,(λa g=>if a<f then i a g else bp),((c+1:X):Z),j.z,j.m,aa,aa,?_,?_⟩
     ·intro a g v q;dsimp only;by_cases o:a<f
      ·rw[aw o,hb _ _ aa];exact j.t a g o q
      obtain rfl:a=f:=aa;rw[au o,gG];grind
     have ao:az f (lM h)++[((c:Z),((c+1:X):Z),([]:aj6),(-1:Z),())]=az (f+1) (eB (lM h) f ((h f:Z),((c+1:X):Z),[],-1,())):=(by grind [db,hb,nT,gG]);have el:az f (λa=>az n (i a))++[bI n bp]=az (f+1) (λa=>az n (λg=>if a<f then i a g else bp)):=(by simp_all [db,aw,wV,if_false,nT,iQ]);grind
    |false=>
     have fr:=co bn;rw[bP];obtain⟨b,rfl⟩:∃b,f=b+1:=⟨f-1,by
      grind⟩
     have fs:=j.m b aa;refine bu.2 ⟨b,h,i,(c:Z),j.z,λa v=>j.m a aa,aa,aa,?_,?_⟩
     ·intro a g v q;rw[j.t a g v q];grind [hb,gG]
     grind [db,gG,hb,lM]
   rintro _ ⟨b,d,l,F,T,U,ad,an,ap,rfl⟩;dsimp only;rw[a7,cN,show ax (((b+1:X):Z)-1)=(b:Z) by rw[(aa:((b+1:X):Z)-1=(b:Z)),bh aa aa]];refine bz (fc (akQ b)) ?_;rw[gO (akQ b),gG,hx];refine bz bn ?_;have ao:az (b+1) (eB (eB (lM d) b ((d b:Z),F,[],-1,())) b ((d b:Z),((c+1:X):Z),[],-1,()))=az (b+1) (lM (eB d (b+1) (c+1))):=db λa v=>by
    by_cases o:a=b
    ·simp_all [gG,hb,lM]
    grind [hb,lM]
   dsimp only;rw[ao];have cs:∀p,(u:p<(g4 G c).length)->∃g:X,(g4 G c)[p]=(g:Z)/\g<n:=λp u=>(by obtain⟨g,em,eq,_⟩:=Ns B (b3 u);grind);have fp:(g4 G c).length<=n:=(by grind [Wa]);refine bE (P:=λs=>s=(az (b+1) (lM (eB d (b+1) (c+1))),az (b+1) (λa=>az n (λw=>l a w||(br (a=b)&&br ((w:Z)∈g4 G c)))),())) ?_ ?_
   ·refine bQ (g4 G c).length (λp O=>O=((p:Z),az (b+1) (lM (eB d (b+1) (c+1))),az (b+1) (λa=>az n (λw=>l a w||(br (a=b)&&br ((w:Z)∈(g4 G c).take p)))),())) ?_ ?_ ?_
    ·simp
    ·rintro p _ S rfl;dsimp only;refine bz (rS J) ?_;rw[a7,aZ (aF (aa:(p:Z)<((g4 G c).length:Z))),cN];refine bz (fc (akQ b)) ?_;refine bz (rS J) (bz (eR S) ?_);obtain⟨g,q,cv⟩:=cs p S;rw[q,gO (akQ b)];refine bz (y:=g) (by grind [fc,cN]) ?_;rw[gO (akQ b),gO cv,hx,alX,hx,Oe,bc aa];refine bz bn (bu.2 ?_);congr 3;refine db λa _=>db λw _=>?_;grind [akd,bX,Gj]
    rintro _ rfl;dsimp only;refine bz (rS J) ?_;rw[a7,aW (aA (aa:¬(((g4 G c).length:X):Z)<((g4 G c).length:Z))),cB];grind [bu]
   rintro _ rfl;dsimp only;refine bu.2 ⟨b,d,_,T,U,ad,an,?_,bn⟩;intro a g v q;rw[Bool.or_eq_true,ap a g v q];by_cases o:a=b
   ·subst o;rw[gG,gG];grind
   grind [hb]
  rintro _ ⟨b,d,l,T,U,ad,an,ap,rfl⟩;dsimp only;refine bu.2 ⟨b+1,eB d (b+1) (c+1),l,⟨?_,gG _ _ _,?_,?_⟩,bn⟩
  ·grind [hb]
  ·grind [hb,gG]
  grind [hb]
 rintro _ ⟨f,h,i,j,rfl⟩;dsimp only;rw[a7,cN,aW (aA (aa:¬((n:Z)<(n:Z))))];grind [bu]
end
end
section
theorem agd (a:X->j) (b:X):eB a b (a b)=a:=by grind [eB]
theorem Tw (b:X->j) (a:X) (d c:j):eB (eB b a d) a c=eB b a c:=by grind [eB]
def hK (a:X->X->bA) (b c:X):aj6:=((bJ c).filter (a b)).map λd:X=>(d:Z)
theorem St:hK h b (a+1)=if h b a=bq then hK h b a++[(a:Z)] else hK h b a:=by grind [akD,hK]
theorem Ss {T:X->X->bA} {f i:X}:(hK T f i).length<=i:=by grind [cw,aky,cg,hK]
def qc (c:X->X) (F:X) (e:X->X->bA) (b g:X) (h:Z):Prop:=
 (h=-1/\∀a,a<g->e b a=bq->a<c (b+1))\/
 (∃a d:X,a<g/\e b a=bq/\c (b+1)<=a/\(∀f,f<a->e b f=bq->f<c (b+1))/\h=(d:Z)/\b<d/\d<F/\c d<=a/\a<c (d+1))
def kU (c:X->X) (b:X->X->bA) (d f:X) (g:Z) (e a:X):bA:=b e a||(br (g=(e:Z))&&br (c (d+1)<=a)&&br (a<f)&&b d a)
structure nC (G:et) (n F:X) (c:X->X) (w1:X->X->bA) (f:X) (T:X->X->bA) (g:X->eD):Prop where
 sub:∀m x,m<F->x<n->w1 m x=bq->T m x=bq
 sup:∀m x,m<F->x<n->T m x=bq->c m<=x
 tU:∀m,m<f->∃q,qc c F T m n q/\g m=((c m:Z),(c (m+1):Z),hK T m n,q,())/\∀p:X,q=(p:Z)->∀x,c (m+1)<=x->x<n->T m x=bq->T p x=bq
 new:∀m,f<=m->m<F->g m=lM c m
section
variable {G:et} {n F:X} {c:X->X} {w1:X->X->bA} (C:G.length=n) (B:fu G) (D:n<=7) (A:og G n n F c w1)
include C B D A
theorem og.oh:F<=n:=by have:=Pj A.m F (bd _);have:=A.e;omega
theorem og.le (f:b<=a) (e:a<=F):c b<=c a:=by
 rcases cT b a with d|d
 ·exact Nat.le_of_lt (ZI A.m b a d e)
 grind
theorem og.own (g:a<n):∃b,b<F/\c b<=a/\a<c (b+1):=by
 have h:∀d,d<=F->a<c d->∃b,b<d/\c b<=a/\a<c (b+1):=by
  intro d
  induction d with
  |zero=>intro _ f;rw[A.z] at f;omega
  |succ d i=>
   grind
 exact h F (bd _) (by rw[A.e];exact g)
theorem og.sup (e:a<F) (f:b<n) (d:w1 a b=bq):c a<=b:=by obtain⟨j,g,h,i⟩:=(A.t a b e f).1 d;grind [Ns]
theorem og.diag (g:a<F) (d:c a<=b) (f:b<c (a+1)):w1 a b=bq:=by have h:=A.le C B D (aa:a+1<=F) (bd _);have i:=A.e;obtain⟨k,j,_⟩:=V9 B (aa:b<G.length);exact(A.t a b g aa).2 ⟨b,d,f,by grind⟩
theorem adh {T:X->X->bA} (ad:a<F) (G:b<n) (av:c (a+1)<=b) {g:X->eD} {has:bm gy} (z:∀d,d<F->(g d).1=(c d:Z)/\(g d).2.1=(c (d+1):Z)):ae (loop (σ:=(Z×jv×bm gy×bt)) (ρ:=ko) (λ(i,f,p,_)=>
 bif br (i<al f) then
 bB (α:=ko) (
 bB (α:=(bA×jv×bm gy×bt)) (
 (ba f.length i).bind λH=>
 (a1 f H λw=>Y w.1).bind λO=>
  bif br ((b:Z)>=O)==bq then(ba f.length i).bind λI=>
 (a1 f I λx=>Y x.2.1).bind λQ=>
 Y (br ((b:Z)<Q),f,p,()) else Y (bp,f,p,())) λ(N,o,r,_)=>
  bif N then
 (ba o.length (a:Z)).bind λt=>
 (a1 o t λk=>Y (o.set t (k.1,(k.2.1,(k.2.2.1,(i,k.2.2.2.2)))))).bind λR=>
 Y (R,r,()) else
 Y (o,r,())) λ(J,y,_)=>
 Y (.inl (aM i,J,y,())) else
 Y (.inr (f,p,()))) (aM (a:Z),az F g,has,())) (λL=>∃e:X,a<e/\e<F/\c e<=b/\b<c (e+1)/\L=(az F (eB g a ((g a).1,(g a).2.1,(g a).2.2.1,(e:Z),())),has,())):=by
 have V:=A.oh C B D;obtain⟨e,K,a0,a3⟩:=A.own C B D G;have am:a<e:=by
  rcases cT a e with h|h
  ·exact h
  have:=A.le C B D (aa:e+1<=a+1) aa;omega
 refine(bQ (F-(a+1)) (λm M=>M=(((a+1+m:X):Z),az F (if e<a+1+m then eB g a ((g a).1,(g a).2.1,(g a).2.2.1,(e:Z),()) else g),has,())) ?_ ?_ ?_)
 ·rw[bc aa,au aa]
 ·rintro m _ an rfl;dsimp only;generalize ap:a+1+m=d;have j:d<F:=aa;rw[a7,cN,aZ (aF (aa:(d:Z)<(F:Z)))];generalize E:(if e<d then eB g a ((g a).1,(g a).2.1,(g a).2.2.1,(e:Z),()) else g)=q;have s:(q d)=g d:=by
   rw[<-E];grind [hb]
  obtain⟨u,v⟩:=z d j;refine bE (P:=λh=>h=(az F (if e<d+1 then eB g a ((g a).1,(g a).2.1,(g a).2.2.1,(e:Z),()) else g),has,())) ?_ ?_
  ·refine bE (P:=λh=>h=(br (d=e),az F q,has,())) ?_ ?_
   ·refine bz (fc j) ?_;rw[gO j,s,u];refine bz bn ?_;by_cases S:c d<=b
    ·rw[aZ (by grind)];refine bz (fc j) ?_;rw[gO j,s,v];refine bz bn (bu.2 ?_);by_cases l:d=e
     ·rw[aF l,aF (show(b:Z)<(c (d+1):Z) by grind)]
     have:¬b<c (d+1):=λU=>by
      rcases cT d e with h|h
      ·have:=A.le C B D (aa:d+1<=e) aa;omega
      have:=A.le C B D (aa:e+1<=d) aa;omega
     grind
    rw[aW (by grind),aA (show¬d=e by grind)];grind [bu]
   rintro _ rfl;dsimp only;by_cases l:d=e
   ·rw[aZ (aF l)];simp_all [bz,bu,gO,hx,aw,fc,cN]
   rw[aW (aA l)];grind [bu]
  grind [bc,bu]
 rintro _ rfl;dsimp only;rw[a7,cN,(aa:a+1+(F-(a+1))=F),aW (aA (aa:¬((F:Z)<(F:Z)))),b8 K];grind [bu]
theorem aeJ (p:a<F) (R:nC G n F c w1 a h O):ae (loop (σ:=(Z×jv×bm gy×bt)) (ρ:=ko) (λ(r,s,u,_)=>
 bif br (r<al (az n (g4 G))) then
 bB (α:=ko) (
 (ba u.length (a:Z)).bind λcs=>
 ((a1 u cs λd1=>Y d1).bind λd2=>ba d2.length r).bind λf1=>
 (a1 u cs λd3=>a1 d3 f1 λd4=>Y d4).bind λhi=>
  bif !hi then
 Y (s,u,()) else
 (ba s.length (a:Z)).bind λcv=>
 (a1 s cv λd5=>Y d5.2.2.1).bind λgo=>
 (cI (go.length+([r]).length)).bind λ_=>
 (ba s.length (a:Z)).bind λU=>
  bif bH cv U&&bq then
 (a1 s U λd6=>Y d6.2.2.1).bind λgs=>
 (a1 s U λam=>Y (s.set U (am.1,(am.2.1,((gs++[r]),am.2.2.2))))).bind λz=>
 bB (α:=ko) (
 bB (α:=(bA×jv×bm gy×bt)) (
 (ba z.length (a:Z)).bind λf2=>
 (a1 z f2 λd7=>Y d7.2.1).bind λhr=>
  bif br (r>=hr)==bq then(ba z.length (a:Z)).bind λf3=>
 (a1 z f3 λd8=>Y d8.2.2.2.1).bind λhs=>
 Y (br (hs<0),z,u,()) else Y (bp,z,u,())) λ(gi,c2,a4,_)=>
  bif gi then
 (loop (σ:=(Z×jv×bm gy×bt)) (ρ:=ko) (λ(E,t,ap,_)=>
  bif br (E<al t) then
 bB (α:=ko) (
 bB (α:=(bA×jv×bm gy×bt)) (
 (ba t.length E).bind λf4=>
 (a1 t f4 λd9=>Y d9.1).bind λhv=>
  bif br (r>=hv)==bq then(ba t.length E).bind λf5=>
 (a1 t f5 λek=>Y ek.2.1).bind λhw=>
 Y (br (r<hw),t,ap,()) else Y (bp,t,ap,())) λ(gl,V,bl,_)=>
  bif gl then
 (ba V.length (a:Z)).bind λc1=>
 (a1 V c1 λQ=>Y (V.set c1 (Q.1,(Q.2.1,(Q.2.2.1,(E,Q.2.2.2.2)))))).bind λid=>
 Y (id,bl,()) else
 Y (V,bl,())) λ(f8,fn,_)=>
 Y (.inl (aM E,f8,fn,())) else
 Y (.inr (t,ap,()))) (aM (a:Z),c2,a4,())).bind λ(f6,ex,_)=>
 Y (f6,ex,()) else
 Y (c2,a4,())) λ(x,K,_)=>
 (ba x.length (a:Z)).bind λfT=>
 (a1 x fT λdg=>Y dg.2.1).bind λgt=>
  bif br (r>=gt) then
 (ba x.length (a:Z)).bind λf0=>
 (a1 x f0 λdl=>Y dl.2.2.2.1).bind λhc=>
 (ba K.length hc).bind λa0=>
 ((a1 K a0 λds=>Y ds).bind λd0=>ba d0.length r).bind λco=>
 (a1 K a0 λa3=>(a1 a3 co λ_=>Y (a3.set co bq)).map λib=>K.set a0 ib).bind λic=>
 Y (x,ic,()) else
 Y (x,K,()) else bo) λ(f7,fl,_)=>
 Y (.inl (aM r,f7,fl,())) else
 Y (.inr (s,u,()))) ((c a:Z),az F O,az F (λa=>az n (h a)),())) (λw=>∃j,qc c F h a n j/\w=(az F (eB O a ((c a:Z),(c (a+1):Z),hK h a n,j,())),az F (λd=>az n (kU c h a n j d)),())):=by
 have ix:=A.oh C B D;have i2:=A.le C B D (aa:a+1<=F) (bd _);have i1:=A.e;have kd:=A.m a p;have fs:O a=lM c a:=R.new a (bd _) p;have i3:∀d,d<F->(O d).1=(c d:Z)/\(O d).2.1=(c (d+1):Z):=λd bx=>by
  rcases cT d a with q|q
  ·obtain⟨j,_,J,_⟩:=R.tU d q;grind
  rw[R.new d q bx];exact⟨bn,bn⟩
 refine bQ (n-c a) (λv gf=>∃j,qc c F h a (c a+v) j/\gf=(((c a+v:X):Z),az F (eB O a ((c a:Z),(c (a+1):Z),hK h a (c a+v),j,())),az F (λd=>az n (kU c h a (c a+v) j d)),())) ?_ ?_ ?_
 ·have ao:hK h a (c a)=[]:=by
   unfold hK;rw[Ch.2 λk S q=>?_]
   ·rfl
   have I:=gD.1 S;have:=R.sup a k p aa q;omega
  refine⟨-1,.inl ⟨bn,λk S q=>?_⟩,?_⟩
  ·omega
  rw[l4,ao];congr 2
  ·have:eB O a ((c a:Z),(c (a+1):Z),([]:aj6),(-1:Z),())=O:=by
    rw[show((c a:Z),(c (a+1):Z),([]:aj6),(-1:Z),())=O a from fs.symm,agd]
   grind
  simp_all [db,aA,kU]
 ·rintro v _ jp ⟨j,L,rfl⟩;dsimp only;generalize i8:c a+v=b at*;have av:b<n:=aa;rw[a7,cN,aZ (aF (aa:(b:Z)<(n:Z))),(aa:c a+(v+1)=b+1)];have ft:kU c h a b j a b=h a b:=by
   grind [aA,kU]
  refine bE (P:=λw=>∃o,qc c F h a (b+1) o/\w=(az F (eB O a ((c a:Z),(c (a+1):Z),hK h a (b+1),o,())),az F (λd=>az n (kU c h a (b+1) o d)),())) ?_ ?_
  ·refine bz (fc (by grind [cN])) ?_;rw[gO p];refine bz (y:=b) (by grind [fc,cN]) ?_;rw[gO p,gO av,ft];refine bz bn ?_;cases an:h a b with
   |false=>
    rw[aZ (by rfl)];refine bu.2 ⟨j,?_,?_⟩
    ·rcases L with⟨ay,o⟩|⟨k,l,ay,o⟩
     ·refine .inl ⟨ay,λk S q=>?_⟩;grind
     exact .inr ⟨k,l,aa,o⟩
    rw[St,an,au ab];congr 2;refine db λd _=>db λk _=>?_;grind [aF,aA,kU]
   |true=>
    rw[aW (by rfl)];refine bz (fc (by grind [cN])) ?_;rw[gO p,gG];refine bz bn ?_;have lb:=Ss (T:=h) (f:=a) (i:=b);rw[eS (by grind),bK];refine bz (fc (by grind [cN])) ?_;rw[aZ (by simp_all),gO p,gG];refine bz bn ?_;rw[gO p,gG,hx,Tw];refine bz bn ?_;have fz:hK h a b++[(b:Z)]=hK h a (b+1):=(by rw[St,b8 an]);dsimp only;rw[fz];refine bE (P:=λw=>∃o,w=(az F (eB O a ((c a:Z),(c (a+1):Z),hK h a (b+1),o,())),az F (λd=>az n (kU c h a b j d)),())/\((b<c (a+1)/\o=j)\/(c (a+1)<=b/\∃l:X,o=(l:Z)/\l<F/\(j=o\/(j=-1/\∀k,k<b->h a k=bq->k<c (a+1)))))/\qc c F h a (b+1) o) ?_ ?_
    ·refine bE (P:=λw=>∃N:bA,w=(N,az F (eB O a ((c a:Z),(c (a+1):Z),hK h a (b+1),j,())),az F (λd=>az n (kU c h a b j d)),())/\(N=bq↔c (a+1)<=b/\j<0)) ?_ ?_
     ·refine bz (fc (by grind [cN])) ?_;rw[gO p,gG];refine bz bn ?_;dsimp only;by_cases H:c (a+1)<=b
      ·rw[aZ (by grind)];grind [bz,bu,gO,gG,fc,cN]
      rw[aW (by grind)];grind [bu]
     rintro _ ⟨N,rfl,fp⟩;dsimp only;cases N with
     |true=>
      obtain⟨ad,ii⟩:=fp.1 bn;rw[bG];have ci:j=-1/\∀k,k<b->h a k=bq->k<c (a+1):=by
       rcases L with q|⟨k,l,I,J,el,em,eq,_⟩
       ·exact q
       omega
      refine bE (adh (T:=h) C B D A p av ad (g:=eB O a ((c a:Z),(c (a+1):Z),hK h a (b+1),j,())) (has:=az F (λd=>az n (kU c h a b j d))) (λd bx=>?_)) ?_
      ·grind [hb,gG]
      rintro _ ⟨l,f9,M,gc,ge,rfl⟩;dsimp only;refine bu.2 ⟨(l:Z),?_,.inr ⟨ad,l,bn,M,.inr ci⟩,.inr ⟨b,l,aa,an,ad,ci.2,bn,f9,M,gc,ge⟩⟩;rw[gG,Tw]
     |false=>
      rw[bP];refine bu.2 ⟨j,bn,?_,?_⟩
      ·rcases cT b (c (a+1)) with H|H
       ·omega
       refine .inr ⟨H,?_⟩;rcases L with q|⟨k,l,I,J,el,em,eq,io,is,_⟩
       ·grind
       grind
      rcases L with⟨I,J⟩|⟨k,l,I,J⟩
      ·refine .inl ⟨I,λk S i0=>?_⟩;grind
      exact .inr ⟨k,l,aa,J⟩
    rintro _ ⟨o,rfl,fr,ce⟩;dsimp only;refine bz (fc (by grind [cN])) ?_;rw[gO p,gG];refine bz bn ?_;dsimp only;rcases fr with⟨H,rfl⟩|⟨H,l,rfl,M,kg⟩
    ·rw[aW (aA (aa:¬(b:Z)>=(c (a+1):Z)))];refine bu.2 ⟨o,ce,?_⟩;congr 2;refine db λd _=>db λk _=>?_;grind [aA,aF,kU]
    rw[aZ (aF (aa:(b:Z)>=(c (a+1):Z)))];refine bz (fc (by grind [cN])) ?_;rw[gO p,gG];refine bz bn ?_;dsimp only;refine bz (fc (by grind [cN])) ?_;rw[gO M];refine bz (y:=b) (by grind [fc,cN]) ?_;rw[gO M,gO av,hx,alX,hx,Oe];refine bz bn (bu.2 ⟨(l:Z),ce,?_⟩);congr 2;refine db λd _=>db λk _=>?_;grind [Gj,kU]
  grind [bc,bu]
 rintro _ ⟨j,L,rfl⟩;dsimp only;rw[(aa:c a+(n-c a)=n)] at*;rw[a7,cN,aW (aA (aa:¬((n:Z)<(n:Z))))];grind [bu]
end
end
section
theorem qc.congr {c:X->X} {F:X} (e:h a=q a) (f:qc c F h a b d):qc c F q a b d:=by simp_all [qc]
theorem Sr (c:h a=q a):hK h a b=hK q a b:=by grind [hK]
section
variable {G:et} {n F:X} {c:X->X} {A:X->X->bA} (B:G.length=n) (C:fu G) (D:n<=7) (H:og G n n F c A)
include B C D H
theorem nC.next (K:a<F) (j:nC G n F c A a h O) (l:qc c F h a n d):nC G n F c A (a+1) (kU c h a n d) (eB O a ((c a:Z),(c (a+1):Z),hK h a n,d,())):=by
 have i:∀b,b<=a->kU c h a n d b=h b:=λb g=>by
  funext f;unfold kU;have:¬d=(b:Z):=by rcases l with⟨e,_⟩|⟨f,p,_,_,_,_,e,k,_⟩<;>omega
  grind
 have u:∀b f,h b f=bq->kU c h a n d b f=bq:=λb f e=>(by grind [kU]);refine⟨λb f g m e=>u _ _ (j.sub b f g m e),λb f g m e=>?_,λb g=>?_,λb g s=>?_⟩
 ·unfold kU at e;rw[jx] at e;rcases e with e|e
  ·exact j.sup b f g m e
  simp only[bk,akt] at e;obtain⟨⟨⟨o,k⟩,r⟩,J⟩:=e;rcases l with⟨ay,_⟩|⟨L,p,x,y,z,B,C,D,E,H,I⟩
  ·omega
  grind
 ·rcases cT b a with e|e
  ·obtain⟨ay,o,k,r⟩:=j.tU b e;refine⟨ay,o.congr (i b aa).symm,?_,λp t f v w q=>?_⟩
   ·rw[hb _ _ aa,k,Sr (i b aa)]
   rw[i b aa] at q;grind
  obtain rfl:b=a:=aa;refine⟨d,l.congr (i b aa).symm,?_,λp t f v w q=>?_⟩
  ·rw[gG,Sr (i b aa)]
  grind [aF,kU]
 rw[hb _ _ aa];exact j.new b aa s
end
theorem IU {j:da} {aS:da} {G:et} {n:X} (B:G.length=n) (C:fu G) (D:n<=7) (q:S.length<=9223372036854775807) (k:vl (j,())=Y (aS,d,())) (m:vo (aS,())=Y ((t,()),l,())) (p:tc ((t,()),o,())=Y ((G,()),z,())):ae (xF (j,o,S,())) (λi=>∃F c A b a,og G n n F c A/\nC G n F c A F b a/\i=(az F a,())):=by
 unfold xF;refine bz k (bz m (bz p ?_));refine bz (aeu C aa) ?_;dsimp only;rw[B];refine bE (Wp B C D q) ?_;rintro _ ⟨F,c,A,H,rfl⟩;dsimp only;have x:=H.oh B C D;refine bE (P:=λi=>∃b a,nC G n F c A F b a/\i=(az F a,())) ?_ ?_
 ·refine bQ F (λe w=>∃b a,nC G n F c A e b a/\w=((e:Z),az F a,az F (λe=>az n (b e)),())) ⟨A,lM c,⟨λ_ _ _ _ f=>f,λv E r u f=>H.sup B C D r u f,λv f=>absurd f (sH _),λ_ _ _=>rfl⟩,bn⟩ ?_ ?_
  ·rintro e _ g ⟨b,a,h,rfl⟩;dsimp only;rw[a7,cN F,aZ (aF (aa:(e:Z)<(F:Z)))];refine bz (fc g) ?_;rw[gO g,h.new e (cd _) g];refine bz bn ?_;refine bE (aeJ B C D H g h) ?_;rintro _ ⟨y,s,rfl⟩;dsimp only;rw[bc aa];exact bu.2 ⟨_,_,h.next B C D H g s,bn⟩
  rintro _ ⟨b,a,h,rfl⟩;dsimp only;rw[a7,cN F,aW (aA (aa:¬((F:Z)<(F:Z))))];grind [bu]
 grind [bu]
theorem Xu {P:X->bA} {a b:X} (i:∀c,c<a->P c=bp) (j:∀c,a<=c->c<b->P c=bq) (k:a<=b):∀e,(bJ (b+e)).filter P=ako a (b-a)++(((bJ (b+e)).filter P).filter λc=>br (b<=c)):=by
 have h:∀d,a+d<=b->(bJ (a+d)).filter P=ako a d:=by
  intro d
  induction d with
  |zero=>
   simp_all
  |succ d f=>
   grind [apz,akD,List.filter_cons_of_pos,apC]
 intro e
 induction e with
 |zero=>
  have:=h (b-a) aa;simp_all
 |succ e f=>
  rw[<-uE,jB,o5,o5,<-kZ,<-f];congr 1;cases g:P (b+e)<;>simp[g]
end
section
section
variable {G:et} {n F:X} {c:X->X} {I T:X->X->bA} {g:X->eD} (C:G.length=n) (D:fu G) (H:n<=7) (A:og G n n F c I) (B:nC G n F c I F T g)
include C D H A B
theorem nC.cG {a:X} (e:a<=F):cG (az F g) a=c a:=by
 cases a with
 |zero=>exact A.z.symm
 |succ a=>
  obtain⟨f,_,d,_⟩:=B.tU a aa;show(Option.map (λb:eD=>b.2.1.toNat) (az F g)[a]?).getD 0=c (a+1);grind [gR]
theorem JK {k x:X}:(x:Z)∈hK T k n↔x<n/\T k x=bq:=by unfold hK;grind
theorem Sq (a:X):(hK T a n).Pairwise (· < ·):=by unfold hK;rw[ou];exact(an6.filter _).imp λb=>by omega
theorem nC.rows (f:w<F):∃h:aj5,hK T w n=(ako (c w) (c (w+1)-c w)++h).map (λd:X=>(d:Z))/\∀d,d∈h↔c (w+1)<=d/\d<n/\T w d=bq:=by
 have p:=A.le C D H (aa:w+1<=F) (bd _);have q:=A.e;have r:=A.m w f;have:=Xu (P:=λd=>br (d<n)&&T w d) (a:=c w) (b:=c (w+1)) (λd g=>by
  by_cases o:d<n
  ·cases i:T w d with
   |false=>simp
   |true=>have:=B.sup w d f o i;omega
  omega) (λd k l=>by
   show(br (d<n)&&T w d)=bq;rw[aF (aa:d<n),B.sub w d f aa (A.diag C D H f k l)];rfl) aa (n-c (w+1))
 rw[(aa:c (w+1)+(n-c (w+1))=n)] at this;have j:(bJ n).filter (λd=>br (d<n)&&T w d)=(bJ n).filter (T w):=p0 λd g=>(by rw[aF (gD.1 g),amk]);rw[j] at this;refine⟨((bJ n).filter (T w)).filter λd=>br (c (w+1)<=d),?_,?_⟩
 ·grind [hK]
 grind
theorem nC.XF:iu G (az F g):=by
 have d3:=A.oh C D H;have a0:=A.e;have O:∀a,a<=F->jy.cG (az F g) a=c a:=λa b=>B.cG C D H A b;have N:oe n (az F g):=by
  refine⟨λa b=>?_,by rw[cN,O F (bd _),a0]⟩;rw[cN] at b;obtain⟨z,_,j,_⟩:=B.tU a b;have s:=A.m a b;have d2:=A.le C D H (aa:a+1<=F) (bd _);refine⟨g a,gR b,?_,?_,?_⟩
  ·rw[j,O a aa]
  ·grind
  grind
 have ce:∀f,f<F->ie (az F g) (f:Z)=hK T f n:=λf R=>(by obtain⟨z,_,j,_⟩:=B.tU f R;grind [yF,cN,lJ]);have bs:∀{f i:X},f<F->c f<=i->i<c (f+1)->iB (jy.cG (az F g)) i (az F g).length=(f:Z):=λ{f i} R d1 j=>(by have s:=cN F g;exact CM (m:=(az F g).length) (λa b=>⟨b,N.1 a b⟩) aa (by grind) (by grind) _ aa (bd _));unfold iu;rw[C];refine⟨N,λa b=>?_,λa b=>?_,λad d w=>?_⟩
 ·rw[cN] at b;rw[lJ];obtain⟨z,_,j,_⟩:=B.tU a b;obtain⟨h,S,p⟩:=B.rows C D H A b;have s:=A.m a b;have bl:(hK T a n).length=(c (a+1)-c a)+h.length:=(by grind);have u:=Sq C D H A B a;have q:((c (a+1):Z)-(c a:Z)).toNat=c (a+1)-c a:=aa;rw[j];unfold mE;dsimp only;rw[q];refine⟨aa,λd _ P l=>⟨λQ=>?_,λv=>?_⟩⟩
  ·simp_all
  dsimp only at v l|-;rw[q] at v;have y:(hK T a n)[d]=((h[d-(c (a+1)-c a)]'(by omega):X):Z):=by simp_all
  have o:=(p _).1 (cF (aa:d-(c (a+1)-c a)<h.length));refine⟨aa,aa,?_⟩;exact(ik.1 u) (d-1) d aa aa aa
 ·rw[cN] at b;rw[lJ];obtain⟨z,bx,j,d5⟩:=B.tU a b;obtain⟨h,S,p⟩:=B.rows C D H A b;have s:=A.m a b;have bl:(hK T a n).length=(c (a+1)-c a)+h.length:=(by grind);have u:=Sq C D H A B a;have q:((c (a+1):Z)-(c a:Z)).toNat=c (a+1)-c a:=aa;have y:∀d (l:d<(hK T a n).length),c (a+1)-c a<=d->∃i,i∈h/\(hK T a n)[d]=(i:Z):=λd l v=>by
   refine⟨h[d-(c (a+1)-c a)]'(by omega),cF _,?_⟩
   simp_all
  rw[j];unfold oo;dsimp only;rw[q];rcases bx with⟨ay,d8⟩|⟨I,f,K,L,ap,cs,rfl,cv,c1,c2,dg⟩
  ·refine .inl ⟨?_,ay⟩;have:h=[]:=apy.2 λi d7=>by
    grind
   grind
  have co:=(p I).2 ⟨ap,K,L⟩;have d6:0<h.length:=apw co;refine .inr ⟨aa,?_,λd P l=>?_⟩
  ·obtain⟨J,V,a3⟩:=y (c (a+1)-c a) aa (bd _);obtain⟨dl,ds,d0⟩:=(p J).1 V;have d4:J<=I:=by
    obtain⟨E,ci,U⟩:=g1.1 ((JK (x:=I) C D H A B (k:=a)).2 ⟨K,L⟩);rcases cT E (c (a+1)-c a) with av|av
    ·simp only[S,jR] at U;rw[List.getElem_append_left (by grind)] at U;grind
    rcases cT (c (a+1)-c a) E with M|M
    ·have:=(ik.1 u) _ E aa ci M;omega
    grind
   grind [akE,cn]
  obtain⟨J,V,a3⟩:=y d l P;grind [JK]
 intro Q;have a4:ad<n:=(by obtain⟨l,_⟩:=w;omega);have o:d<n:=(by have:=w.lt D;omega);obtain⟨f,r,am,an⟩:=A.own C D H a4;rw[bs r am an,ce f r];refine(JK C D H A B).2 ⟨o,B.sub f d r o ((A.t f d r o).2 ⟨ad,am,an,vP.2 ⟨aa,.inr ⟨Q,?_⟩⟩⟩)⟩;exact .one w
end
end
theorem adX (b:iZ a a n c o) (d:hH a a n c o≠0):vl (((a:Z),(a:Z),n,c,o,()),())=Y ((0,0,[],[],[],()),hH a a n c o,()):=by unfold vl;refine ai b.yB ?_;grind
def adU:vo ((0,0,[],[],[],()),())=Y (([],()),1,()):=by unfold vo;refine ai (y:=((1:Z),())) rfl ?_;rfl
def GG:fu []:=IQ []
theorem ad3 (a:aj6):∃c,tc (([],()),a,())=Y (([],()),c,()):=by
 rw[KO (λe d=>by cases d)];by_cases b:mU [] a=0
 ·rw[aw b];refine⟨0,?_⟩;have:a=[]:=by
   unfold mU at b;grind
  subst this;rfl
 simp_all
theorem nC.small (g:t.length=a) (i:fu t) (j:a<=7) (d:og t a a b v h) (f:nC t a b v h b q O):(az b O).length<=a/\∀e∈az b O,0<e.2.2.1.length/\e.2.2.1.length<=a:=by have p:=d.oh g i j;refine⟨by grind [cN],λe l=>?_⟩;obtain⟨k,c,rfl⟩:=g1.1 l;rw[cN] at c;rw[lJ];obtain⟨s,_,n,_⟩:=f.tU k c;obtain⟨u,r,_⟩:=f.rows g i j d c;have o:=d.m k c;grind [Ss]
theorem XS (y:a<=b) (P:b<=7) (x:hH a a o c S=0->m3 a o c S) (t:iZ a a o c S) {f K:aj6} (p:K.length<=9223372036854775807):ae (xF (((a:Z),(a:Z),o,c,S,()),f,K,())) (λU=>∃k:jv,U=(k,())/\k.length<=b/\(∀d∈k,0<d.2.2.1.length/\d.2.2.1.length<=b)/\(oW a a o c S f=0->iu (lK a (g6 (eG o c S a)) f) k)):=by
 classical
 have u:a<=7:=c4 y P;by_cases e:hH a a o c S=0
 ·have s:=(kM.1 e).1;have M:=(kM.1 e).2;have L:=tk s a (bd _);have N:=tj s;have V:=(x e).el;have O:=vy s t.hw;have Q:=vy s (IF M);have J:=Ba L;have I:=A9 N;have T:=SP (rows:=a) (eL:=a) (E:=g6 (eG o c S a)) aa aa aa (λA z=>O A (hU.1 z).1);have R:=Nb J I (λA z=>Q A (hU.1 z).1);have w:=adV T R;rw[N8 J I] at w;by_cases q:fV f a
  ·refine(IU (xZ q) (AW a (g6 (eG o c S a)) f) u p (RL (x e) t e) w (ad2 (c4 u ab) q)).mono ?_;rintro _ ⟨B,F,D,C,H,i,j,rfl⟩;obtain⟨l,g⟩:=j.small (xZ q) (AW a (g6 (eG o c S a)) f) u i;exact⟨_,bn,c4 l y,λd h=>⟨(g d h).1,c4 (g d h).2 y⟩,λ_=>j.XF (xZ q) (AW a (g6 (eG o c S a)) f) u i⟩
  have m:∃v,tc ((ke a (j2 (g6 (eG o c S a))),()),f,())=Y (([],()),v,()):=by
   rw[KO (λk p=>by have:=IV a (j2 (g6 (eG o c S a))) k p;omega)];rw[au (λr=>?_)]
   ·grind
   grind [AU,mU]
  obtain⟨v,m⟩:=m;refine(IU (G:=[]) (n:=0) rfl GG (eU _) p (RL (x e) t e) w m).mono ?_;rintro _ ⟨B,F,D,C,H,i,j,rfl⟩;obtain⟨l,g⟩:=j.small bn GG (eU _) i;refine⟨_,bn,c4 l (eU _),λd h=>⟨(g d h).1,c4 (g d h).2 (eU _)⟩,λr=>absurd (K2 r).2.2 q⟩
 obtain⟨v,m⟩:=ad3 f;refine(IU (G:=[]) (n:=0) rfl GG (eU _) p (adX t e) adU m).mono ?_;rintro _ ⟨B,F,D,C,H,i,j,rfl⟩;obtain⟨l,g⟩:=j.small bn GG (eU _) i;exact⟨_,bn,c4 l (eU _),λd h=>⟨(g d h).1,c4 (g d h).2 (eU _)⟩,λr=>absurd (K2 r).1 e⟩
def XR (d:a<=5) (h:iZ a a n c o) {e:aj6} (g:e.length<=9223372036854775807):ae (xF (((a:Z),(a:Z),n,c,o,()),S,e,())) (λi=>∃b:jv,i=(b,())/\b.length<=5/\(∀f∈b,0<f.2.2.1.length/\f.2.2.1.length<=5)/\(oW a a n c o S=0->iu (lK a (g6 (eG n c o a)) S) b)):=
 XS d ab (m3.J0 d) h g
section
section
variable {n:X} {st A B o:aj6} {l:bm eD}
theorem XG (j:fV o n) (q:n<=7) (a:iu (lK n (g6 (eG st A B n)) o) l):l.length<=7/\(∀d∈l,d.2.2.1.length<=7)/\EP (lK n (g6 (eG st A B n)) o) l=0:=by
 have f:=xZ (E:=g6 (eG st A B n)) j;have h:=AW n (g6 (eG st A B n)) o;have p:=IP a;refine⟨aa,λd k=>?_,?_⟩
 ·obtain⟨r,c,rfl⟩:=g1.1 k;have b:=jN.of a f c;have e:=b.g;rw[bi c] at e;have m:=b.GY;grind [akS,ie,ip]
 have i:i7 (lK n (g6 (eG st A B n)) o)=0:=uV.2 ⟨aa,h⟩;unfold EP;rw[au (akw i),aw a]
def LO (e:m3 n st A B) (t:iZ n n st A B) (b:hH n n st A B=0) (a:fV o n) (d:iu (lK n (g6 (eG st A B n)) o) l):s6 (((n:Z),(n:Z),st,A,B,()),o,l,())=Y (qz (nS (eG st A B n) o) o l):=by have f:=e.Bh;obtain⟨z,m,p⟩:=Un e t b a;obtain⟨C,v,w⟩:=XG a f d;have j:=X1 (E:=g6 (eG st A B n)) (c4 f ab) a;have c:=T9 j (l:=l) aa (λx u=>by have:=v x u;omega);rw[w] at c;have q:=(kM.1 b).1;have i:=(kM.1 b).2;exact ade d (xZ a) (λg h=>iC _) (λy k g h=>(cC.kv k (agm (vy q (IF i)) _ _)).mono ab ab ab) aa a.1 p (λg h r s=>aeY m r s) c
def T8 (e:iZ b a st A B) (f:o.length<=1000000) (c:oW b a st A B o≠0) (l:jv):s6 (((b:Z),(a:Z),st,A,B,()),o,l,())=Y (r2,oW b a st A B o,()):=by have d:(oW b a st A B o !=0)=bq:=(by rw[fL,aA c];rfl);unfold s6;refine ai (Um e f c) ?_;dsimp only;rw[aZ d];rfl
end
end
structure uH (q:aP):Prop where
 EA:∀d∈q.d,cE d≠2047
 kN:q.aY.length=2->ja q.d≠Y 0
 CT:∀d∈q.d,e3 d
 Pe:∀a∈q.l,∀i,e3 (a i)
theorem yw (f:a9):∀h:aj5,(∀c∈(f.dd h).d,e3 c)/\∀b∈(f.dd h).l,∀g,e3 (b g)
 |[]=>⟨λc a=>absurd a (by show c∉([]:aj6);simp),λb e=>absurd e (by show b∉([]:bm (X->Z));simp)⟩
 |[p]=>⟨λc a=>by rw[gp.1 (show c∈[_] from a)];exact BH _ _,λb e g=>by
  rw[akc.1 (show b∈[_] from e)];dsimp only;split
  ·exact⟨ab,ab⟩
  exact FX _⟩
 |[p,r]=>⟨λc a=>by
  have a:c∈[f.bj p p,f.bj r p,f.bj r r]:=a;simp only[fC,anq,or_false] at a;rcases a with rfl|rfl|rfl<;>exact BH _ _,λb e g=>by
  have e:b∈[_,_]:=e;simp only[fC,anq,or_false] at e;grind [FX]⟩
 |_::_::_::_=>⟨λc a=>absurd a (by show c∉([]:aj6);simp),λb e=>absurd e (by show b∉([]:bm (X->Z));simp)⟩
theorem OJ {v:X->Z} {p:X} {R:aj5}:∀{l:aj5} {a:Z×aj1},(∀b,a.2=Y b->b∈R/\v b=a.1)->(∀b∈l,b∈R)->∀b,(hQ v p l a).2=Y b->b∈R/\v b=(hQ v p l a).1
 |[],_,d,_,b,c=>d b c
 |j::l,a,d,f,b,c=>by rw[hQ] at c|-;refine OJ ?_ (λg e=>f g (gC _ e)) b c;grind
theorem Wu {a:Z} (f:(d.natAbs:Z)≠0) (e:¬41*((d.natAbs:Z)*d.natAbs)<=64*((l.natAbs:Z)*a)) (g:¬41*a<=64*(z.natAbs:Z)):l*z≠d*d:=by intro c;have b:(l.natAbs:Z)*z.natAbs=(d.natAbs:Z)*d.natAbs:=(by have:=b6 Int.natAbs c;rw[o4,o4] at this;omega);rw[<-b] at e;have h:(l.natAbs:Z)*(64*(z.natAbs:Z))<=(l.natAbs:Z)*(41*a):=jA aa aa;grind
theorem Hs {c:a9} (e:cE (c.bj a b)≠2047):∃d,aX (c.bj a b)=Y d/\c.av a b=(d.natAbs:Z):=⟨_,tR e,by grind [tR,a9.av]⟩
theorem Wt {f c g:Z} (q:cE l≠2047) (j:cE d≠2047) (r:cE z≠2047) (n:aX l=Y f) (o:aX d=Y c) (p:aX z=Y g) (b:ja [l,d,z]=Y 0):f*g=c*c:=by obtain⟨e,a⟩:∃e:X,e=65536:=⟨_,bn⟩;obtain⟨t,y,B,v,ao,h,k,x⟩:=cC.mul a (cC.kv a q) (cC.kv a r) ab ab ab;obtain⟨u,A,C,w,i,f2,m,f4⟩:=cC.mul a (cC.kv a j) (cC.kv a j) ab ab ab;have s:=(cC.add a ab t u.neg ab).2;rw[n] at ao;rw[p] at h;rw[o] at i f2;cases ao;cases h;cases i;cases f2;have b:cR (cJ (aX l) (aX z)) (dc (cJ (aX d) (aX d)))=Y 0:=b;rw[s,k,m] at b;have b:v+-w=0:=gq b;grind
theorem M8 {b:a9}:∀{n k:aj5},(∀p∈n,p∈b.rows)->b.iO n=Y k->uH (b.dd k)
 |[],k,_,c=>by rw[a9.iO] at c;cases c;exact⟨λi e=>absurd e (by show i∉([]:aj6);simp),λc=>absurd c (by show¬(0=2);decide),(yw b _).1,(yw b _).2⟩
 |p::n,k,u,c=>by
  rw[a9.iO] at c;split at c
  ·cases c
  rename_i f;have f:=apI.1 f;have q:=u p ac;have I:∀g,g∈b.rows->b.fin g->uH (b.dd [g]):=λg r C=>⟨λi e=>by
   rw[gp.1 (show i∈[_] from e)];exact C g r,λc=>absurd c (by show¬(1=2);decide),(yw b _).1,(yw b _).2⟩
  split at c
  ·grind
  rename_i o;split at c
  ·grind
  rename_i d E;obtain⟨h,s⟩:=OJ (R:=b.rows) (l:=b.rows) (a:=(0,bo)) (v:=λw=>b.av w p) (p:=p) ac (λw D=>D) d E;split at c
  ·exact M8 (λg r=>u g (gC _ r)) c
  split at c
  ·cases c
  rename_i j;have j:=apI.1 j;split at c
  ·grind
  rename_i m;split at c
  ·grind
  rename_i t;cases c;refine⟨λi e=>?_,λ_ e=>?_,(yw b _).1,(yw b _).2⟩
  ·have e:i∈[b.bj p p,b.bj d p,b.bj d d]:=e;simp only[fC,anq,or_false] at e;rcases e with rfl|rfl|rfl
   ·exact f p q
   ·exact f d h
   exact j d h
  obtain⟨F,x,y⟩:=Hs (f p q);obtain⟨G,Hg,bf⟩:=Hs (f d h);obtain⟨H,z,A⟩:=Hs (j d h);have s:b.av d p=(b.hh p).1:=s;rw[<-s] at o m;rw[bf] at o m;rw[y] at m;rw[A] at t;exact Wu (λB=>o (.inl B)) m t (Wt (f p q) (f d h) (j d h) x Hg z e)
theorem Sn:∀{n:X} {d f:a9} {e:bm aP},a9.run n d=Y (f,e)->∀c∈e,uH c
 |0,d,f,e,a,c,b=>by grind [a9.run]
 |n+1,d,f,e,a,c,b=>by
  match hc:d.choose with
  |none=>grind [Ge]
  |some []=>
   grind [BJ]
  |some (i::h)=>
   rw[yI hc ac] at a;split at a
   case isFalse=>cases a
   cases g:a9.run n (d.elim (i::h)) with
   |none=>grind
   |some j=>
    rw[g] at a;cases a;rcases fC.1 b with rfl|b
    ·exact M8 (λc b=>uA b) hc
    exact Sn g c b
def pS:aj5->bm aP->Prop
 |_,[]=>True
 |D,a::c=>(∀b∈a.rows,b∉D/\b∉a.aY)/\pS (D++a.aY) c
theorem pS.app:∀{D:aj5} {b a:bm aP},pS D b->pS (D++b.flatMap aP.aY) a->pS D (b++a)
 |D,[],a,_,c=>by grind
 |D,e::b,a,c,d=>⟨c.1,c.2.app (by rwa[kZ])⟩
theorem Sm:∀{n:X} {b i:a9} {f:bm aP} {d:aj5},lV b->(∀c∈b.rows,c∉d)->a9.run n b=Y (i,f)->pS d f
 |0,b,i,f,d,_,_,a=>by rw[a9.run] at a;cases a;trivial
 |n+1,b,i,f,d,m,p,a=>by
  match hc:b.choose with
  |none=>grind [Ge]
  |some []=>
   rw[BJ hc] at a;cases a;trivial
  |some (h::g)=>
   rw[yI hc ac] at a;split at a
   case isFalse=>cases a
   cases e:a9.run n (b.elim (h::g)) with
   |none=>grind
   |some q=>
    rw[e] at a;cases a;have j:∀c∈b.rows.filter (λo=>br (o∉h::g)),c∉d/\c∉h::g:=λc e=>(by grind);refine⟨j,Sm (m.elim (CO hc)) (λc e=>?_) e⟩;obtain⟨k,l⟩:=j c e;exactλa=>(hn.1 a).elim k l
theorem IE {d:X->X->ez} (h:∀C D,cW (d C D)) {p:et} {b:bm eD} {H:X} (k:iu p b) (j:p.length=H):∀{t:X},t<=b.length->∀{g:bm a9} {e:bm aP},jb d b t=Y (g,e)->(∀c∈e,uH c)/\pS [] e
 |0,_,g,e,a=>by rw[jb] at a;cases a;exact⟨λc n=>(by cases n),trivial⟩
 |t+1,K,g,e,a=>by
  rw[jb] at a;cases m:jb d b t with
  |none=>grind
  |some I=>
   obtain⟨q,L⟩:=I;obtain⟨i1,s⟩:=xT h k j aa m;obtain⟨F,G⟩:=IE h k j aa m;have i:=jN.of k j (aa:t<b.length);rw[m] at a;dsimp only[bK] at a;have z:=s.zA h i;have A:=s.CG i;have B:=zB d (λf=>q.getD f hP) t (l:=b);generalize iN d b (λf=>q.getD f hP) t=w at*;cases o:a9.run (w.full+1) w with
   |none=>grind
   |some c=>
    rw[o] at a;cases a;refine⟨λc n=>(hn.1 n).elim (F c) (Sn o c),G.app (Sm z (λM v u=>?_) o)⟩;rw[ho] at u;rw[B.1,hn] at v;have J:=gD.1 (A.mem_iff.1 (nG _ (nG _ u)));rcases v with r|r
    ·grind [anI,aoq,anV]
    obtain⟨E,x,y,f⟩:=yi.1 r;have:=i.KC E x y;omega
end Go.jy
end
