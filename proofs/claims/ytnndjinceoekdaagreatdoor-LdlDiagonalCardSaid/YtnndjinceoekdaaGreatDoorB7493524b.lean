/-
  Parts of the proof: Th3, Pl20, Pl21, Pl22, Pl23, Pl24, Pl25, Pl26, Pl27, Pl29, Pl30, Pl32, Pl36, Pl40, Pl41, Pl42, Pl43, Pm13, Pl46, Pl48, Pl50, Pl51, Pl54, Pm14, Pm15, Pm16, Pm17, Pm18, Pm22, Pm24, Pm25, Pm27, Pm29, Pm30, Pm51, Pm52, Pm55, Pm56, Pm57, Pm70, Pm71, Pm72, Pm73, Pm74, Pm75, Pm76, Pm77, Pm78, Pm79, Pm80, Pm81, Th5, Th6, Pm82, Pm83, Pm90, Pm38, Pm41, Pm42, Pm91, Pm84, Pm85, Pm86, Pm87, Pm88, Pm92, Pm93, Pm94, Pm95, Pm89, Pm97, Pm99, Pm100, Pm98, Pm101, Pm102, Pm103: the framework (Fw), pure forms (Dn), plain laws (Pl, Th), calls of functions (Ok).
-/
import Derived.KernelRfl
import Derived.Test.YtnndjinceoekdaaGreatDoorBc4f675da

set_option linter.all false
set_option maxHeartbeats 1000000
open _root_ renaming Nat->X,Int->Z,Option->bv,List->bm,Unit->bt,Bool->bA,cond_false->bO,rfl->bn,decide_true->ahJ,cond_true->bG,decide_eq_decide->cu,if_true->cg,forall_const->akk,implies_true->alh,not_true_eq_false->aiZ,congrArg->b3,not_not_intro->ahe,beq_self_eq_true->ahM,decide_eq_true_eq->ahD,Decidable->ahS,if_pos->b9,if_neg->cf,decide_eq_true->ahg,of_decide_eq_true->aiP,and_true->b8,decide_eq_false_iff_not->aj3,decide_eq_false->ahN
open Option renaming some->Y,bind_some->bN,map_some->ajs,bind->bB,none->bo
open List renaming replicate->bJ,take_zero->ajo,getElem?_eq_getElem->bR,getD->ahX,range->bH,pairwise_iff_getElem->ahh,getElem_inj->aiA,length_range->ah8,filter_eq_self->ain,length_filter_le->ahF,range_succ->ahG,mem_iff_getElem->ahY,take_add_one->ct,getElem_mem->b6,take_of_length_le->ck,mem_cons_self->alg,map_congr_left->ahv,idxOf_lt_length_iff->amx,mem_of_find?_eq_some->akP,take_sublist->aki,mem_singleton->ahk,length_set->ajl,map_append->akg,take_length->cB,take_append_drop->aiK,decidableBAll->amF,mem_of_getElem?->aht,drop_eq_nil_of_le->ak8,length_take->aho,drop_eq_getElem_cons->ai4,mem_take_iff_getElem->aiY,length_map->cj,append_assoc->ahP,map_const'->alf,mem_map->ajv,getElem?_eq_some_iff->ahT,map_nil->aiq,filter->ajg,flatMap_def->amG,range'->ahf,Nodup->ajw,take_nil->alo,filter_nil->akj,mem_append_right->ajV,getElem?_inj->ajO,length_append->ahO,map_take->alp,set_append_right->akb,length_singleton->ajx,length_range'->alq,range'_concat->akn,foldl_append->amI,length->ahn,takeWhile_sublist->amJ,head_dropWhile_not->amK,nodup_range->alr,mem_range->aih,mem_flatMap->ajy,mem_of_mem_take->amL,mem_filter->amM,takeWhile_append_dropWhile->amN,dropWhile_sublist->amO,pairwise_cons->ai7,getElem?_eq_none->aiT,map_singleton->als
open Go.IntKind renaming u64->bC,i64->bK
open Go.jm.ae renaming eq_iff->bP,aK->bE,af->bu,loop->ahx,steps->bS,bs->bz,ite->ahH
open Option.some renaming injEq->ais,inj->ah0
open Nat renaming not_lt_zero->ajt,lt_or_ge->cl,ble->b2,ble_eq_true_of_le->amw,le_refl->cc,le_trans->cA,add_comm->ai6,le_mul_of_pos_left->amz,mul_mod_left->amA,le_div_iff_mul_le->ak3,mod_lt->aiI,shiftRight_eq_div_pow->akS,or_mod_two_pow->amB,and_mod_two_pow->alk,and_zero->amC,shiftLeft_eq->aj0,lt_of_le_of_lt->amD,and_le_right->amE,or_lt_two_pow->ak1,beq->bI,and_two_pow_sub_one_eq_mod->ak2,add_assoc->aiJ,one_mul->amH
open Bool renaming true->bp,false->bq,false_and->akH,and_true->ajY
open Go.jm renaming wrap64->cq
open Int renaming toNat_natCast->ahR,sub_zero->aj6,eq_ofNat_of_zero_le->ahi,toNat->ahK,mul_ediv_cancel->ak9,mul_ne_zero->akm,mul_eq_zero->aj9,mul_zero->aka,mul_eq_mul_right_iff->alj,natAbs_natCast->akf,mul_comm->aig,lt_irrefl->aln
open Decidable renaming decide->br
open Go.jm.j0 renaming symm->ali
open List.Perm renaming refl->aju,append_left->ajX
open Go.Lib renaming compact->ah5,keeps->akl
open List.Nodup renaming sublist->amy
open List.Pairwise renaming sublist->amu,imp_of_mem->am4,nil->ajL
open List.Sublist renaming append->am2,refl->am3
open BitVec renaming toNat_and->alm,ofInt->ch
noncomputable section
namespace Go.jm
variable{a b j q:X}{c k z:Z}{d l:ahb}{f t u v:ahc}{h:Type}{o:bv (Z×((bm aA×bt)×(bm (bv (bm (Z×cU)×X))×bt)))}{p:bm (bm fZ)}{r:X->X->bA}{s:ew}{w:ag6}{x:ahc×bA×bt}{N:Z->bv (cU×bt)}
section
def LK (P:X->Prop):X->X
 |0=>0
 |k+1=>LK P k+(open Classical in if P k then 1 else 0)
section
variable {P Q:X->Prop} {k:X}
end
def Fv (n:X) (f:X->Z):Prop:=∀a,a<n->f a=-1\/((a:Z)<f a/\f a<n)
def RY (n:X) (f:X->Z) (a b:X):Prop:=a<n/\f a=(b:Z)
def Sub (n:X) (f:X->Z) (a b:X):Prop:=Bm (RY n f) a b
section
variable {n:X} {f:X->Z} (A:Fv n f)
include A
def jE (n:X) (f:X->Z) (b:X):X:=LK (λa=>Sub n f a b) n
def Rz (n:X) (f:X->Z):Prop:=∀a,a<n->∀b,Sub n f b a->a<b+jE n f a
end
end
section
section
variable {B:ew} (C:fj B) (A:B.length<=200)
include C A
end
def XP (b:ahc) (n a:X):Z:=(b[a+1]?).getD n
section
variable {n:X} {f:X->Z} (D:Fv n f) (A:n<=200)
include D A
end
end
section
theorem TA (A:ew) (a:X):(g2 A a).length<=A.length:=Ty A a A.length
section
variable {A:ew} (B:fj A) (C:A.length<=200)
include B C
end
end
section
section
variable {A:ew} (B:fj A) (C:A.length<=200)
include B C
theorem abQ:zv ((A,()),())=Y (aB A.length (g2 A),0,()):=abP B (B.hc C) C
end
end
section
structure KB (n:X) (f:X->Z) (JM:ahc) (m:X) (s e:X->X):Prop where
 len:JM.length=m
 st:JM=aB m λk=>(s k:Z)
 aew:0<n->0<m/\s 0=0
 aev:n=0->m=0
 ok:∀k,k<m->s k<e k/\e k<=n/\e k<=s k+jE n f (e k-1)
 aP:∀k,k<m->XP JM n k=(e k:Z)
 ael:∀k,k+1<m->e k=s (k+1)
 el:∀k,k+1=m->e k=n
section
variable {A:ew} (B:fj A) (C:A.length<=200)
include B C
end
end
section
def hk (s:X->X) (a:X):X->Z
 |0=>-1
 |k+1=>if s k<=a then(k:Z) else hk s a k
abbrev dc:=Z×dT
section
variable {n:X} {f:X->Z} {B:ahc} {m:X} {s e:X->X} (C:KB n f B m s e)
include C
end
section
variable {A:ew} (D:fj A) (F:A.length<=200)
include D F
end
end
def RR:∀a:X,a<201->Cq (1,(a:Z),())=Y (0,(a:Z),()):=by unfold Cq;decide+kernel
def R1 (c:Z) (t:0<a) (u:a<=200):CE ([c],(a:Z),())=Y (bJ a c,()):=by
 unfold CE;have ao:bC.wrap (a:Z)=(a:Z):=(by rw[Rp];omega);have m:bC.wrap ((1:X):Z)=1:=(by rw[Rp];rfl);have r:¬((a:Z)<0):=aa;have p:¬((a:Z)>9223372036854775807):=aa;simp only[cQ,aw r,aC,Gq,ao,m,RR a aa,wx,(aa:¬((0:Z)>0)),if_false,aF p,bO,AV (aa:a<9223372036854775808),ij (aa:a<=4294967296),qD,rW,Nat.sub_zero];rw[<-bP];refine bE (P:=λl=>l.1=bJ a c) ?_ (by rintro⟨l,⟨⟩⟩ g;simp only at g;subst g;exact bu.2 bn);have s:∀b:X,b<=a->bJ b c++bJ (a-b) 0=aB a (λd=>if d<b then c else 0):=λb i=>(by rw[jj,jj,zH];have:b+(a-b)=a:=aa;rw[this]);refine ahx (λf=>∃b:X,f.1=(b:Z)/\0<b/\b<=a/\f.2.1=aB a (λd=>if d<b then c else 0)) (λf=>a-f.1.toNat) ⟨1,?_,aa,aa,?_⟩ ?_
 ·show((min 1 a:X):Z)=1;rw[h1 aa];rfl
 ·show jt (bJ a 0) [c] 0 a=_;unfold jt;rw[h1 (show[c].length<=a-0 by simp;omega),ajo,fK (show[c].length<=a-0 by simp;omega),iL,List.drop_replicate,jj];show[c]++aB (a-1) (λ_=>0)=_;have:[c]=aB 1 (λ_=>c):=rfl;rw[this,zH];have:1+(a-1)=a:=aa;rw[this]
 rintro⟨f,w,⟨⟩⟩ ⟨b,i,v,q,k⟩;simp only at i k;subst i k;simp only[cY];by_cases g:b<a
 ·simp(disch:=omega) only[au,u1,qa,Jd,aC,jo,lj,Ds,cY];refine bu.2 ⟨⟨b+min b (a-b),Rq aa,aa,aa,?_⟩,?_⟩
  ·show jt (aB a λd=>if d<b then c else 0) (aB b λd=>if d<b then c else 0) b a=_;unfold jt;have n:(aB b λd=>if d<b then c else 0)=aB b λ_=>c:=c9 λd h=>(by rw[au h]);have o:(aB b λ(_:X)=>c).take (a-b)=aB (min b (a-b)) λ_=>c:=by
    rcases Nat.le_total (a-b) b with e|e
    ·rw[Ds _ _ _ e,Nat.min_eq_right e]
    rw[fK (by rw[cY];exact e),h1 e]
   rw[Ds _ _ _ q,cY,n,o,UU,zH,zH];have:b+(min b (a-b)+(a-(b+min b (a-b))))=a:=aa;rw[this];refine c9 λd h=>?_;by_cases e:d<b
   ·rw[au e,au aa]
   rw[aw e];by_cases j:d-b<min b (a-b)
   ·rw[au j,au aa]
   rw[aw j,aw aa,aw aa]
  show a-(bK.wrap ((b:Z)+((min b (a-b):X):Z))).toNat<a-(b:Z).toNat;rw[Rq aa];omega
 simp(disch:=omega) only[aw];refine bu.2 ?_;show _=_;rw[jj];exact c9 λd h=>by rw[au aa]
def be (a:bm dc):X->X
 |0=>0
 |k+1=>((a[k]?).map λ(b:dc)=>b.2.1.toNat).getD 0
def nS (d:X) (c:bm dc) (b:X):Prop:=∃a:dc,c[b]?=Y a/\a.1=(be c b:Z)/\(be c b:Z)<a.2.1/\a.2.1<=(d:Z)
def lM (c:X) (a:bm dc):Prop:=(∀b,b<a.length->nS c a b)/\be a a.length=c
theorem Th {b:bm dc} (c:a<b.length) (d:0<=b[a].2.1):(be b (a+1):Z)=b[a].2.1:=by grind [bR,be]
theorem nS.at {c:bm dc} (i:a<c.length) (d:nS b c a):c[a].1=(be c a:Z)/\c[a].2.1=(be c (a+1):Z)/\be c a<be c (a+1)/\be c (a+1)<=b:=by obtain⟨j,e,f,g,h⟩:=d;grind [Th,ais,bR]
theorem Lt {d:bm dc} {m:X} (f:∀e,e<m->e<d.length/\nS a d e):∀c b,c<=b->b<=m->be d c<=be d b:=by
 intro c b l
 induction b with
 |zero=>grind
 |succ b j=>
  intro n;rcases cS c (b+1) with g|g
  ·have k:=j aa aa;obtain⟨h,i⟩:=f b aa;have:=i.at h;omega
  grind
theorem wv {c:bm dc} {m:X} (f:∀a,a<m->a<c.length/\nS j c a) (n:a<m) (h:be c a<=b) (i:b<be c (a+1)):∀d,a<d->d<=m->hk (be c) b d=(a:Z):=by
 intro d
 induction d with
 |zero=>omega
 |succ e o=>
  intro k l;rcases cS a e with g|g
  ·have:=Lt f (a+1) e aa aa;grind [jm.hk]
  obtain rfl:e=a:=aa;simp_all [au,jm.hk]
theorem wu {c:bm dc} (f:lM b c) (g:a<b):∃d,d<c.length/\be c d<=a/\a<be c (d+1):=by
 have h:∀e,e<=c.length->a<be c e->∃d,d<e/\be c d<=a/\a<be c (d+1):=by
  intro e
  induction e with
  |zero=>intro _ f;exact absurd f (ajt _)
  |succ e k=>
   grind
 obtain⟨d,i,j⟩:=h c.length (bd _) (by rw[f.2];exact g);grind
theorem TC (b:bm dc) (D:a<=200) (C:b.length<4611686018427387904):ae (Da (b,(a:Z),())) (λf=>(f.2.1=bp↔lM a b)/\(lM a b->f.1=aB a (λg=>hk (be b) g b.length))):=by
 classical
 unfold Da;refine bE (P:=λv=>match v with|.inl f=>(∀c,c<b.length->nS a b c)/\f.1=aB (be b b.length) (λg=>hk (be b) g b.length)|.inr f=>¬lM a b/\f=([],bq,())) ?_ ?_
 ·refine ae.for b.length (λc w=>(∀d,d<c->d<b.length->nS a b d)/\w.1=aB (be b c) (λg=>hk (be b) g c)) (i0:=0) rfl ⟨λd e=>by omega,bn⟩ (c8 _) ?_ ?_
  ·rintro c ⟨u,⟨⟩⟩ _ k ⟨p,i⟩;simp only at i;subst i;have q:∀d,d<c->d<b.length/\nS a b d:=λd o=>⟨aa,p d o aa⟩;have B:be b c<=a:=by
    cases c with
    |zero=>exact c8 _
    |succ c=>exact((q c aa).2.at aa).2.2.2
   have s:=gQ (bc k);simp(disch:=omega) only[cQ,au,s,aC,cY,gb];have A:¬(b[c].1=(be b c:Z)/\(be b c:Z)<b[c].2.1/\b[c].2.1<=(a:Z))->¬lM a b:=λe l=>(by obtain⟨E,j,n⟩:=l.1 c k;grind);by_cases h:b[c].1=(be b c:Z)
   ·by_cases x:b[c].2.1<=b[c].1
    ·simp only[h,ahJ,gT,show(bq==bq)=bp from rfl,bG,aH (aa:b[c].2.1<=(be b c:Z)),show(bp==bq)=bq from rfl,bO,aC];grind [bu]
    by_cases m:b[c].2.1>(a:Z)
    ·simp only[h,ahJ,gT,show(bq==bq)=bp from rfl,bG,aF (aa:¬b[c].2.1<=(be b c:Z)),aH m,aC];grind [bu]
    have r:nS a b c:=⟨b[c],bc k,h,aa,aa⟩;obtain⟨j,n,y,z⟩:=r.at k;have t:bK.wrap (b[c].2.1-b[c].1)=((be b (c+1)-be b c:X):Z):=(by rw[j,n,ad5 aa aa]);simp only[h,ahJ,gT,show(bq==bq)=bp from rfl,bG,aF (aa:¬b[c].2.1<=(be b c:Z)),aF m,bO,aC];rw[<-h];rw[t,R1 _ aa aa];simp(disch:=omega) only[aC,qD,eB,iT,cY];refine bu.2 ⟨bn,λd o e=>?_,?_⟩
    ·grind
    show aB (be b c) (λg=>hk (be b) g c)++bJ (be b (c+1)-be b c) (c:Z)=_;grind [c9,jj,zH,jm.hk,be]
   simp only[aF h,me,show(bp==bq)=bq from rfl,bO,bG,aC];grind [bu]
  simp_all [cQ,aw,bu]
 rintro(⟨u,⟨⟩⟩|f) e
 ·obtain⟨j,i⟩:=e;simp only at i;subst i;simp only[cY];refine bu.2 ⟨?_,λl=>?_⟩
  ·show(((be b b.length:X):Z)==(a:Z))=bp↔_;rw[beq_iff_eq];exact⟨λe=>⟨j,aa⟩,λe=>by have:=e.2;omega⟩
  show aB (be b b.length) _=_;rw[l.2]
 grind [bu]
def qH (c:X) (a:dc) (b:X):Prop:=∀d:b<a.2.2.1.length,(b<(a.2.1-a.1).toNat->a.2.2.1[b]=a.1+(b:Z))/\((a.2.1-a.1).toNat<=b->a.2.1<=a.2.2.1[b]/\a.2.2.1[b]<(c:Z)/\a.2.2.1[b-1]<a.2.2.1[b])
def jH (c:X) (a:dc):Prop:=(a.2.1-a.1).toNat<=a.2.2.1.length/\∀b,0<=b->b<a.2.2.1.length->qH c a b
theorem acz {n:X} {x:dc} (o:0<=x.1) (p:x.1<x.2.1) (q:x.2.1<=(n:Z)) (s:n<=200) (r:x.2.2.1.length<4611686018427387904):Dc (x,(n:Z),())=Y ((open Classical in decide (jH n x)),()):=by
 classical
 obtain⟨b,j⟩:∃b:X,x.2.1-x.1=(b:Z):=⟨(x.2.1-x.1).toNat,aa⟩;have t:(x.2.1-x.1).toNat=b:=aa;unfold Dc;simp only[j,AV (aa:b<9223372036854775808),cQ];by_cases l:b<=x.2.2.1.length
 ·rw[aw aa];refine ah (sX (τ:=bt) x.2.2.1.length (qH n x) () (.inl ()) (.inr (bq,())) 0 bn (c8 _) ?_ ?_) ?_
  ·intro a _ i _;have h:=gQ (bc i);rw[au aa,h];simp only[aC,yK,gb];by_cases m:a<b
   ·rw[au aa,cq aa aa];simp only[aC];by_cases c:x.2.2.1[a]=x.1+(a:Z)
    ·have:qH n x a:=λ_=>⟨λ_=>c,λg=>by omega⟩;rw[au this,aH c];simp(disch:=omega) only[gT,bO,aw,aC,iT]
    simp_all [aw,aF,qH]
   rw[aw aa];simp only[aC,bO];rw[au aa];simp only[wx];have k:al x.2.2.1 (bK.wrap ((a:Z)-1))=Y (x.2.2.1[a-1]'(by omega)):=by grind [gQ,bR,vx]
   by_cases c:x.2.2.1[a]<x.2.1
   ·grind [qH]
   rw[aw c];by_cases e:x.2.2.1[a]>=(n:Z)
   ·grind [qH]
   rw[aw e,k];simp only[aC];by_cases f:x.2.2.1[a]<=x.2.2.1[a-1]
   ·grind [qH]
   have:qH n x a:=λ_=>⟨λg=>by omega,λ_=>⟨aa,aa,aa⟩⟩;rw[au this,aw f];grind [iT]
  ·grind
  by_cases d:∀a,0<=a->a<x.2.2.1.length->qH n x a
  ·rw[au d,aH (show jH n x from⟨aa,d⟩)]
  simp_all [aw,aF,jH]
 simp_all [au,aF,jH]
def gR (a:bm dc) (b:Z):ahc:=((a[b.toNat]?).map λ(c:dc)=>c.2.2.1).getD []
def ja (c:bm dc) (a:dc):Prop:=
 (a.2.2.1.length=(a.2.1-a.1).toNat/\a.2.2.2.1=-1)\/
 (∃d:(a.2.1-a.1).toNat<a.2.2.1.length,a.2.2.2.1=hk (be c) (a.2.2.1[(a.2.1-a.1).toNat]).toNat c.length/\∀b,(a.2.1-a.1).toNat<=b->(e:b<a.2.2.1.length)->a.2.2.1[b]∈gR c a.2.2.2.1)
theorem jH.asc {b:dc} (f:0<=b.1) (g:b.1<b.2.1) (c:jH a b):b.2.2.1.Pairwise (· < ·):=by rw[An];intro e d;have ax:=c.2 e (c8 _) aa aa;have h:=c.2 (e+1) (c8 _) d d;grind
theorem td {b:bm dc} (c:a<b.length):gR b (a:Z)=b[a].2.2.1:=by grind [ahR,bR,gR]
theorem Kn {v:Z} (b:f.length<4611686018427387904) (c:f.Pairwise (· < ·)):∃a,us (f,v,())=Y (a,br (v∈f),()):=by obtain⟨⟨a,d,⟨⟩⟩,e,g⟩:=Ko f v b c;grind
theorem WI {c:bm dc} (V:b<=200) (n:lM b c) (w:∀L∈c,L.2.2.1.length<4611686018427387904) (u:∀a,(r:a<c.length)->jH b c[a]) (i:a<c.length):Db (c,aB b (λz=>hk (be c) z c.length),c[a],())=Y ((open Classical in decide (ja c c[a])),()):=by
 classical
 have t:=(n.1 a i).at i;have p:=u a i;have D:=w _ (cO i);generalize am:c[a]=d at t p D;obtain⟨N,O,P,Q⟩:=t;obtain⟨e,F⟩:∃e:X,d.2.1-d.1=(e:Z):=⟨(d.2.1-d.1).toNat,aa⟩;have x:(d.2.1-d.1).toNat=e:=aa;have G:=p.1;rw[x] at G;unfold Db;simp(disch:=omega) only[F,AV (aa:e<9223372036854775808),u1,aC,qa,jo,hS,nf,cQ,gH,gb];by_cases R:d.2.2.1.length=e
 ·rw[au aa];have:br (d.2.2.2.1=-1)=br (ja c d):=by
   simp_all [cu,ja]
  grind
 have o:e<d.2.2.1.length:=aa;have ad:=(p.2 e (c8 _) o o).2 aa;obtain⟨k,y⟩:∃k:X,d.2.2.1[e]=(k:Z):=⟨(d.2.2.1[e]).toNat,aa⟩;have K:k<b:=aa;have A:al (d.2.2.1.drop e) 0=Y (k:Z):=(by grind [gQ]);rw[aw aa];simp(disch:=omega) only[A,aC,rj];obtain⟨g,h,H,I⟩:=wu n K;have q:hk (be c) k c.length=(g:Z):=wv (m:=c.length) (λa i=>⟨i,n.1 a i⟩) h H I c.length h (bd _);rw[q];have T:ja c d↔d.2.2.2.1=(g:Z)/\∀f,0<=f->f<d.2.2.1.length-e->d.2.2.1.getD (e+f) 0∈c[g].2.2.1:=by
  unfold ja;rw[x];constructor
  ·rintro(r|⟨r,j,l⟩)
   ·omega
   rw[y,fA,q] at j;grind [bR,td]
  rintro⟨j,l⟩;refine .inr ⟨o,by rw[y,fA,q,j],λf s S=>?_⟩;rw[j,td h];have:=l (f-e) (c8 _) aa;grind
 by_cases s:d.2.2.2.1=(g:Z)
 ·simp only[s,ahJ,gT,bO];have B:c[g].2.2.1.Pairwise (· < ·):=by
   have:=(n.1 g h).at h;exact(u g h).asc aa aa
  have J:=w _ (cO h);refine ah (sX (τ:=bt) (d.2.2.1.length-e) (λf=>d.2.2.1.getD (e+f) 0∈c[g].2.2.1) () (.inl ()) (.inr (bq,())) 0 bn (c8 _) ?_ ?_) ?_
  ·intro f _ U _;have j:al (d.2.2.1.drop e) (f:Z)=Y (d.2.2.1.getD (e+f) 0):=by
    grind [bR,gQ]
   have l:al c (g:Z)=Y c[g]:=gQ (bc h);obtain⟨M,C⟩:=Kn (v:=d.2.2.1.getD (e+f) 0) J B;rw[au aa,j,l];simp only[aC,C];by_cases E:d.2.2.1.getD (e+f) 0∈c[g].2.2.1
   ·simp(disch:=omega) only[E,ahJ,gT,bO,cg,iT]
   grind
  ·grind
  grind
 grind
section
theorem TI {l:bm dc} (C:a<=200) (D:l.length<4611686018427387904) (e:lM a l) (F:∀i∈l,i.2.2.1.length<4611686018427387904):Cy (l,(Y (a:Z),()),())=Y ((open Classical in decide (¬∀b,(d:b<l.length)->jH a l[b])),()):=by
 classical
 rw[<-bP];unfold Cy;refine bE (P:=λh=>0<=h.1↔¬∀b,(d:b<l.length)->jH a l[b]) ?_ ?_
 ·unfold Gu;refine bE (Ii l.length (λb=>∀d:b<l.length,jH a l[b]) ?_ ?_) ?_
  ·intro b c;have f:=gQ (bc c);obtain⟨j,k,m,o⟩:=(e.1 b c).at c;have g:=acz (n:=a) (x:=l[b]) aa aa aa C (F _ (cO c));simp(disch:=omega) only[cQ,au,f,aC,GX,g];by_cases d:jH a l[b]
   ·simp(disch:=omega) only[d,ahJ,gT,bO,c,akk,cg,iT]
   grind
  ·grind
  grind [bu]
 grind [bu,ge_iff_le]
theorem TJ {l:bm dc} (C:a<=200) (D:l.length<4611686018427387904) (e:lM a l) (F:∀k∈l,k.2.2.1.length<4611686018427387904) (f:∀b,(c:b<l.length)->jH a l[b]):Cz (l,(Y l,Y (aB a (λj=>hk (be l) j l.length)),()),())=Y ((open Classical in decide (¬∀b,(c:b<l.length)->ja l l[b])),()):=by
 classical
 rw[<-bP];unfold Cz;refine bE (P:=λi=>0<=i.1↔¬∀b,(c:b<l.length)->ja l l[b]) ?_ ?_
 ·unfold Gv;refine bE (Ii l.length (λb=>∀c:b<l.length,ja l l[b]) ?_ ?_) ?_
  ·intro b d;have g:=gQ (bc d);have h:=WI C e F f d;simp(disch:=omega) only[cQ,au,g,aC,GY,h];by_cases c:ja l l[b]
   ·simp(disch:=omega) only[c,ahJ,gT,bO,d,akk,cg,iT]
   grind
  ·grind
  grind [bu]
 grind [bu,ge_iff_le]
def RB (A:ew) (l:bm dc) (b a:X):Prop:=b<a->(a:Z)∈gR l (hk (be l) b l.length)
def hO (A:ew) (l:bm dc):Prop:=lM A.length l/\(∀a,(d:a<l.length)->jH A.length l[a])/\(∀a,(d:a<l.length)->ja l l[a])/\∀c b,j0 A c b->RB A l c b
def w6 (A:ew) (l:bm dc):Z:=if iC A≠0 then iC A else(open Classical in if hO A l then 0 else 211)
section
variable {A:ew} (B:fj A) (C:A.length<=200) {l:bm dc} (D:l.length<4611686018427387904) (F:∀y∈l,y.2.2.1.length<4611686018427387904)
include B C D F
theorem U3:uA ((A,()),l,())=Y ((open Classical in if hO A l then 0 else 211),()):=by
 classical
 have I:=B.hc C;unfold uA;simp only[Fm A I,qR.2 ⟨C,B⟩,aC,gb,ahJ,gT,bO];obtain⟨⟨ap,T,⟨⟩⟩,z,t,u⟩:=TC l C D;simp only at t u;simp only[z,aC,wx];by_cases f:lM A.length l
 ·have w:=t.2 f;have O:=u f;subst w O;simp only[gT,show(bq==bq)=bp from rfl,bG,TI C D f F,aC];by_cases j:∀b,(d:b<l.length)->jH A.length l[b]
  ·simp only[j,alh,aiZ,decide_false,bO,aC,TJ C D f F j];by_cases q:∀b,(d:b<l.length)->ja l l[b]
   ·simp only[q,alh,aiZ,decide_false,bO];have V:hO A l↔∀a,0<=a->a<A.length->∀d:a<A.length,∀b,0<=b->b<A[a].length->∀c:b<A[a].length,A[a][b]<=(a:Z)->(a:Z)∈gR l (hk (be l) A[a][b].toNat l.length):=by
     constructor
     ·rintro⟨_,_,_,E⟩ a _ _ d b _ _ c M;have R:=(B.asc a d).2 _ (cO c);obtain⟨e,n⟩:∃e:X,A[a][b]=(e:Z):=⟨A[a][b].toNat,aa⟩;have o:j0 A a e:=⟨d,n▸cO c⟩;have am:=o.ne B;rw[n,fA];exact E e a (ali B _ _ o) aa
     intro d;refine⟨f,j,q,λe a o ad=>?_⟩;have S:=ali B _ _ o;obtain⟨b,c,s⟩:=ho.1 S.2;grind
    rw[show(if hO A l then(0:Z) else 211)=if(∀a,0<=a->a<A.length->∀d:a<A.length,∀b,0<=b->b<A[a].length->∀c:b<A[a].length,A[a][b]<=(a:Z)->(a:Z)∈gR l (hk (be l) A[a][b].toNat l.length)) then 0 else 211 from by grind];refine ah (sX (τ:=ahc×bt) A.length (λa=>∀d:a<A.length,∀b,0<=b->b<A[a].length->∀c:b<A[a].length,A[a][b]<=(a:Z)->(a:Z)∈gR l (hk (be l) A[a][b].toNat l.length)) (aB A.length (λi=>hk (be l) i l.length),()) (.inl ()) (.inr (211,())) 0 bn (c8 _) ?_ ?_) ?_
    ·intro a _ k _;have J:=gQ (bc k);have an:=B.rows _ (cO k);simp(disch:=omega) only[cQ,au,J,aC];refine ah (sX (τ:=ahc×bt) A[a].length (λb=>∀c:b<A[a].length,A[a][b]<=(a:Z)->(a:Z)∈gR l (hk (be l) A[a][b].toNat l.length)) (aB A.length (λi=>hk (be l) i l.length),()) (.inl (aB A.length (λi=>hk (be l) i l.length),())) (.inr (.inr (.inr (211,())))) 0 bn (c8 _) ?_ ?_) ?_
     ·intro b _ c _;have K:=gQ (bc c);have R:=(B.asc a k).2 _ (cO c);obtain⟨e,n⟩:∃e:X,A[a][b]=(e:Z):=⟨A[a][b].toNat,aa⟩;simp(disch:=omega) only[au,K,aC,n,c,akk,fA];by_cases r:(e:Z)>(a:Z)
      ·have:(e:Z)<=(a:Z)->(a:Z)∈gR l (hk (be l) e l.length):=λd=>aa;rw[au r,au this];grind [iT]
      obtain⟨h,g,P,Q⟩:=wu f (aa:e<A.length);have L:hk (be l) e l.length=(h:Z):=wv (m:=l.length) (λb c=>⟨c,f.1 b c⟩) g P Q l.length g (bd _);have y:al l (h:Z)=Y l[h]:=gQ (bc g);have G:l[h].2.2.1.Pairwise (· < ·):=(by have:=(f.1 h g).at g;exact(j h g).asc aa aa);obtain⟨U,H⟩:=Kn (v:=(a:Z)) (F _ (cO g)) G;rw[aw r];simp(disch:=omega) only[rj,aC,L,y,H,td g];have M:(e:Z)<=(a:Z):=aa;by_cases N:(a:Z)∈l[h].2.2.1
      ·simp(disch:=omega) only[N,ahJ,gT,bO,aC,alh,cg,iT]
      grind
     ·grind
     have s:(∀d:a<A.length,∀b,0<=b->b<A[a].length->∀c:b<A[a].length,A[a][b]<=(a:Z)->(a:Z)∈gR l (hk (be l) A[a][b].toNat l.length))↔(∀b,0<=b->b<A[a].length->∀c:b<A[a].length,A[a][b]<=(a:Z)->(a:Z)∈gR l (hk (be l) A[a][b].toNat l.length)):=⟨λp=>p k,λp _=>p⟩;by_cases x:∀b,0<=b->b<A[a].length->∀c:b<A[a].length,A[a][b]<=(a:Z)->(a:Z)∈gR l (hk (be l) A[a][b].toNat l.length)
     ·simp(disch:=omega) only[au x,au (s.2 x),iT]
     grind
    ·grind
    grind
   have:¬hO A l:=λd=>q d.2.2.1;grind
  have:¬hO A l:=λd=>j d.2.1;grind
 have w:T=bq:=(by grind);have:¬hO A l:=λd=>f d.1;grind
end
theorem acy {n:X} {x:dc} (l:0<=x.1) (m:x.1<x.2.1) (w:x.2.1<=(n:Z)):jH n x↔x.2.2.1.Pairwise (· < ·)/\∃(b:(x.2.1-x.1).toNat<=x.2.2.1.length),x.2.2.1[0]'(by omega)=x.1/\x.2.2.1[(x.2.1-x.1).toNat-1]'(by omega)=x.2.1-1/\x.2.2.1[x.2.2.1.length-1]'(by omega)<(n:Z):=by
 obtain⟨f,u⟩:∃f:X,x.2.1-x.1=(f:Z):=⟨(x.2.1-x.1).toNat,aa⟩;have v:(x.2.1-x.1).toNat=f:=aa;constructor
 ·intro b;refine⟨b.asc l m,b.1,?_,?_,?_⟩
  ·have:=(b.2 0 (c8 _) (by have:=b.1;omega) (by have:=b.1;omega)).1 aa;omega
  ·have:=(b.2 ((x.2.1-x.1).toNat-1) (c8 _) (by have:=b.1;omega) (by have:=b.1;omega)).1 aa;omega
  have D:=b.1;have t:=b.2 (x.2.2.1.length-1) (c8 _) aa aa;omega
 rintro⟨p,D,q,r,s⟩;have h:∀a e,(d:a<x.2.2.1.length)->(g:e<x.2.2.1.length)->a<e->x.2.2.1[a]<x.2.2.1[e]:=λa e d g o=>(h0.1 p) a e d g o;have i:∀c a,(d:a+c<x.2.2.1.length)->x.2.2.1[a]+(c:Z)<=x.2.2.1[a+c]:=by
  intro c
  induction c with
  |zero=>grind
  |succ c y=>
   grind
 refine⟨D,λa _ _ d=>⟨λj=>?_,λj=>⟨?_,?_,?_⟩⟩⟩
 ·have ax:=i a 0 aa;have A:=i ((x.2.1-x.1).toNat-1-a) a aa;grind
 ·have z:=h ((x.2.1-x.1).toNat-1) a aa d aa;omega
 ·rcases cS a (x.2.2.1.length-1) with k|k
  ·grind
  grind
 exact h (a-1) a aa d aa
section
variable {A:ew} (B:fj A) (C:A.length<=200) {l:bm dc} (D:l.length<4611686018427387904) (F:∀y∈l,y.2.2.1.length<4611686018427387904)
theorem M9 (f:lM j l) (D:l.length<4611686018427387904) (s:a<l.length) (q:be l a<=b) (r:b<be l (a+1)):C3 (l,(b:Z),())=Y ((a:Z),()):=by
 unfold C3;rw[<-bP];refine bE (P:=λi=>i=.inr ((a:Z),())) ?_ (by grind [bu]);refine ae.for (a+1) (λc _=>c<=a) (i0:=0) rfl (c8 _) (c8 _) ?_ ?_
 ·rintro c ⟨⟩ _ d _;have e:c<l.length:=aa;have h:=gQ (bc e);obtain⟨k,n,o,p⟩:=(f.1 c e).at e;simp(disch:=omega) only[cQ,au,h,aC,yK];rcases cS c a with g|g
  ·have:=Lt (m:=l.length) (λc d=>⟨d,f.1 c d⟩) (c+1) a aa aa;rw[au aa,aF aa];simp only[aC,bO];grind [bu,iT]
  obtain rfl:c=a:=aa;rw[au aa,aH aa];grind [bu]
 omega
include B C D F
theorem abR:zw ((A,()),l,())=Y ((open Classical in if hO A l then 0 else 211),()):=by
 classical
 have O:=B.hc C;unfold zw;simp only[AB A O,qR.2 ⟨C,B⟩,aC,gb,ahJ,gT,bO];rw[<-bP];refine bE (P:=λS=>match S with|.inl p=>(∀a,a<l.length->nS A.length l a)/\p.1=(be l l.length:Z)|.inr p=>¬lM A.length l/\p=(211,())) ?_ ?_
 ·refine ae.count (λT=>T.2.1) l.length (λa T=>(∀e,e<a->e<l.length->nS A.length l e)/\T.1=(be l a:Z)) (i0:=0) rfl ⟨λe c=>by omega,bn⟩ (c8 _) ?_ ?_
  ·rintro a ⟨V,d7,⟨⟩⟩ _ d q ⟨M,j⟩;simp only at q j;subst q j;have u:=gQ (bc d);have fl:¬(l[a].1=(be l a:Z)/\(be l a:Z)<l[a].2.1/\l[a].2.1<=(A.length:Z))->¬lM A.length l:=λc O=>by
    obtain⟨em,r,H⟩:=O.1 a d;grind
   simp(disch:=omega) only[cQ,au,u,aC];by_cases k:l[a].1=(be l a:Z)
   ·simp only[aH k,gT,show(bq==bq)=bp from rfl,bG,wx];by_cases J:l[a].2.1<=(be l a:Z)
    ·rw[au J];grind [bu]
    rw[aw J];by_cases K:l[a].2.1>(A.length:Z)
    ·rw[au K];grind [bu]
    rw[aw K];have dl:nS A.length l a:=⟨l[a],bc d,k,aa,aa⟩;obtain⟨r,H,cv,c1⟩:=dl.at d;grind [cl,bu,iT]
   simp only[aF k,me,show(bp==bq)=bq from rfl,bO,aC];grind [bu]
  rintro⟨V,d7,⟨⟩⟩ q ⟨M,j⟩;simp only at q j;subst q j;simp(disch:=omega) only[cQ,aw];grind [bu]
 rintro(⟨V,⟨⟩⟩|p) c
 rotate_left
 ·obtain⟨r,rfl⟩:=c;exact bu.2 (by rw[aw (λc=>r c.1)])
 obtain⟨M,j⟩:=c;simp only at j;subst j;simp only;by_cases N:be l l.length=A.length
 rotate_left
 ·have:¬((be l l.length:Z)=(A.length:Z)):=aa;simp only[aF this,me,bG];exact bu.2 (by rw[aw (λc=>N c.1.2)])
 have o:lM A.length l:=⟨M,N⟩;simp only[N,ahJ,gT,bO];refine bE (P:=λS=>match S with|.inl _=>(∀a,(c:a<l.length)->jH A.length l[a])/\(∀a,(c:a<l.length)->ja l l[a])|.inr p=>¬((∀a,(c:a<l.length)->jH A.length l[a])/\(∀a,(c:a<l.length)->ja l l[a]))/\p=(211,())) ?_ ?_
 ·refine ae.of_eq (sX (τ:=bt) l.length (λa=>∀c:a<l.length,jH A.length l[a]/\ja l l[a]) () (.inl ()) (.inr (211,())) 0 bn (c8 _) ?_ ?_) ?_
  ·intro a _ d _;have u:=gQ (bc d);obtain⟨k,J,K,eq⟩:=(o.1 a d).at d;have d1:=F _ (cO d);have av:=acy (n:=A.length) (x:=l[a]) aa aa aa;have d4:(∀c:a<l.length,jH A.length l[a]/\ja l l[a])↔(jH A.length l[a]/\ja l l[a]):=⟨λc=>c d,λc _=>c⟩;simp(disch:=omega) only[cQ,au,u,aC];simp only[d4];obtain⟨f,j⟩:∃f:X,l[a].2.1-l[a].1=(f:Z):=⟨(l[a].2.1-l[a].1).toNat,aa⟩;have an:(l[a].2.1-l[a].1).toNat=f:=aa;have d5:bK.wrap (l[a].2.1-1)=l[a].2.1-1:=cq aa aa;simp(disch:=omega) only[j,AV,Km _ d1,aC,wx,d5];by_cases a0:l[a].2.2.1.Pairwise (· < ·)
   rotate_left
   ·grind
   rw[aH a0];simp only[gT,show(bq==bq)=bp from rfl,bG];by_cases a3:f<=l[a].2.2.1.length
   rotate_left
   ·grind
   rw[aw aa];have bx:al l[a].2.2.1 0=Y (l[a].2.2.1[0]'(by omega)):=gQ (i:=0) (bc aa)
   have ce:al l[a].2.2.1 (bK.wrap ((f:Z)-1))=Y (l[a].2.2.1[f-1]'(by omega)):=by grind [gQ,bR,vx]
   have ci:al l[a].2.2.1 (bK.wrap ((l[a].2.2.1.length:Z)-1))=Y (l[a].2.2.1[l[a].2.2.1.length-1]'(by omega)):=by grind [gQ,bR,vx]
   simp only[an] at av;simp only[bx,ce,ci,aC];by_cases a4:l[a].2.2.1[0]'(by omega)=l[a].1
   rotate_left
   ·grind
   rw[aH a4];simp only[gT,show(bq==bq)=bp from rfl,bG];by_cases bl:l[a].2.2.1[f-1]'(by omega)=l[a].2.1-1
   rotate_left
   ·grind
   rw[aH bl];simp only[gT,show(bq==bq)=bp from rfl,bG];by_cases d8:l[a].2.2.1[l[a].2.2.1.length-1]'(by omega)>=(A.length:Z)
   ·grind
   have t:jH A.length l[a]:=av.2 ⟨a0,a3,a4,bl,aa⟩;rw[aw d8];simp only[aC];by_cases r:l[a].2.2.1.length=f
   ·rw[aw aa];simp only[aC];by_cases I:l[a].2.2.2.1=-1
    ·have s:ja l l[a]:=.inl ⟨aa,I⟩;simp only[aH I,gT,bO];rw[au ⟨t,s⟩];have:loop (σ:=eo) (ρ:=dA) (λU=>if U.1<(l[a].2.2.1.length:Z) then(al l (-1)).bind λd9=>(al l[a].2.2.1 U.1).bind λek=>(sp (d9.2.2.1,ek,())).bind λel=>bif !el.1 then Y (.inr (.inr (.inr (.inr (.inr (211,())))))) else Y (.inl (bK.wrap (U.1+1),())) else Y (.inr (.inl ()))) ((f:Z),())=Y (.inl ()):=by
      rw[xq];exact⟨1,by simp_all [aw,j7]⟩
     grind [iT]
    have s:¬ja l l[a]:=λc=>by
     rcases c with c|⟨c,_⟩
     ·omega
     omega
    grind
   have H:f<l[a].2.2.1.length:=aa;have fz:=(t.2 f (c8 _) H H).2 aa;obtain⟨G,fT⟩:∃G:X,l[a].2.2.1[f]=(G:Z):=⟨(l[a].2.2.1[f]).toNat,aa⟩;have d6:G<A.length:=aa;have co:al l[a].2.2.1 (f:Z)=Y (G:Z):=(by grind [gQ,bR]);obtain⟨h,g,z,E⟩:=wu o d6;have am:hk (be l) G l.length=(h:Z):=wv (m:=l.length) (λa d=>⟨d,o.1 a d⟩) g z E l.length g (bd _);have L:al l (h:Z)=Y l[h]:=gQ (bc g);rw[au aa];simp only[co,aC,M9 o D g z E];have R:=F _ (cO g);by_cases I:l[a].2.2.2.1=(h:Z)
   ·have ex:ja l l[a]↔∀e,f<=e->e<l[a].2.2.1.length->l[a].2.2.1.getD e 0∈l[h].2.2.1:=by
     unfold ja;rw[an];simp_all [fA,td,bc,r2,ahX]
    simp only[aH I,gT,bO];refine ah (y:=if ja l l[a] then .inl () else .inr (.inr (.inr (211,())))) ?_ ?_
    ·refine ah (sX (τ:=bt) l[a].2.2.1.length (λe=>l[a].2.2.1.getD e 0∈l[h].2.2.1) () (.inl ()) (.inr (.inr (.inr (.inr (211,()))))) f bn a3 ?_ ?_) ?_
     ·intro e cv c1 _;have cs:al l[a].2.2.1 (e:Z)=Y (l[a].2.2.1.getD e 0):=by
       grind [bR,gQ]
      rw[au aa,L,cs];simp only[aC,A3 _ _ R];by_cases w:l[a].2.2.1.getD e 0∈l[h].2.2.1
      ·simp(disch:=omega) only[w,ahJ,gT,bO,cg,iT]
      grind
     ·grind
     grind
    by_cases ap:ja l l[a]
    ·rw[au ap,au ⟨t,ap⟩];grind [iT]
    grind
   have s:¬ja l l[a]:=λc=>by
    rcases c with c|⟨c,ax,_⟩
    ·omega
    grind
   grind
  ·grind
  grind
 rintro(⟨⟩|p) c
 rotate_left
 ·obtain⟨r,rfl⟩:=c;exact bu.2 (by rw[aw (λc=>r ⟨c.2.1,c.2.2.1⟩)])
 obtain⟨t,s⟩:=c;simp only;have fn:hO A l↔∀b,0<=b->b<A.length->∀a,0<=a->a<(A.getD b []).length->(b:Z)<(A.getD b []).getD a 0->(A.getD b []).getD a 0∈gR l (hk (be l) b l.length):=by
  constructor
  ·rintro⟨_,_,_,c2⟩ b _ c a _ d Q;simp only[ahX,bc c,r2] at d Q|-;simp only[bc d,r2] at Q|-;have fs:=(B.asc b c).2 _ (cO d);obtain⟨e,ad⟩:∃e:X,A[b][a]=(e:Z):=⟨A[b][a].toNat,aa⟩;rw[ad] at Q|-;exact c2 b e ⟨c,ad▸cO d⟩ aa
  intro c;refine⟨o,t,s,λb e d2 fp=>?_⟩;obtain⟨v,w⟩:=d2;obtain⟨a,d,q⟩:=ho.1 w;have:=c b (c8 _) v a (c8 _);grind
 refine ae.of_eq (y:=(if hO A l then(0:Z) else 211,())) ?_ bn;refine ah (sX (τ:=bt) A.length (λb=>∀a,0<=a->a<(A.getD b []).length->(b:Z)<(A.getD b []).getD a 0->(A.getD b []).getD a 0∈gR l (hk (be l) b l.length)) () (.inl ()) (.inr (211,())) 0 bn (c8 _) ?_ ?_) ?_
 ·intro b _ v _;have ds:=gQ (bc v);have ft:=B.rows _ (cO v);have d0:A.getD b []=A[b]:=(by grind);simp(disch:=omega) only[cQ,au,d0];obtain⟨h,g,z,E⟩:=wu o v;have am:hk (be l) b l.length=(h:Z):=wv (m:=l.length) (λa d=>⟨d,o.1 a d⟩) g z E l.length g (bd _);have L:al l (h:Z)=Y l[h]:=gQ (bc g);have R:=F _ (cO g);refine ah (sX (τ:=bt) A[b].length (λa=>(b:Z)<A[b].getD a 0->A[b].getD a 0∈gR l (hk (be l) b l.length)) () (.inl ()) (.inr (.inr (.inr (211,())))) 0 bn (c8 _) ?_ ?_) ?_
  ·intro a _ d _;have u:al A[b] (a:Z)=Y (A[b].getD a 0):=by
    grind [bR,gQ]
   simp(disch:=omega) only[ds,aC,au,u,yK];by_cases k:A[b].getD a 0>(b:Z)
   ·have bs:(b:Z)<A[b].getD a 0:=k;rw[au k];simp only[M9 o D g z E,aC,L,A3 _ _ R,am,td g,bs,akk];by_cases w:A[b].getD a 0∈l[h].2.2.1
    ·simp(disch:=omega) only[w,ahJ,gT,bO,aC,cg,iT]
    grind
   have:(b:Z)<A[b].getD a 0->A[b].getD a 0∈gR l (hk (be l) b l.length):=λc=>absurd c k;rw[aw k,au this];grind [iT]
  ·grind
  by_cases d3:∀a,0<=a->a<A[b].length->(b:Z)<A[b].getD a 0->A[b].getD a 0∈gR l (hk (be l) b l.length)
  ·simp(disch:=omega) only[au d3,iT]
  grind
 ·grind
 grind
end
theorem RJ {A:ew} (c:∀l∈A,l.length<4611686018427387904) {l:bm dc} (D:l.length<4611686018427387904) (F:∀b∈l,b.2.2.1.length<4611686018427387904):uA ((A,()),l,())=Y (w6 A l,()):=by
 unfold w6;by_cases a:iC A=0
 ·obtain⟨C,B⟩:=qR.1 a;rw[aw aa];grind [U3]
 simp_all [au,Fm,aC,gb,aF,me,bG,uA]
theorem RK {A:ew} (b:∀l∈A,l.length<4611686018427387904) {l:bm dc} (D:l.length<4611686018427387904) (F:∀c∈l,c.2.2.1.length<4611686018427387904):zw ((A,()),l,())=Y (w6 A l,()):=by
 unfold w6;by_cases a:iC A=0
 ·obtain⟨C,B⟩:=qR.1 a;rw[aw aa];grind [abR]
 rw[au a];unfold zw;simp only[AB A b,aC,gb,aF a,me,bG]
end
section
def a5 (a:ahb):ahc:=a.map λ(b:X)=>(b:Z)
theorem oo (a b:ahb):a5 (a++b)=a5 a++a5 b:=by simp[a5]
theorem fI (a:ahb):(a5 a).length=a.length:=by simp[a5]
section
variable {n:X} {f:X->Z} (A:Fv n f) (B:n<=200)
include A B
end
end
section
theorem xb {b:bm h} (d:a<b.length) (c:h):b.getD a c=b[a]:=by simp only[ahX,bc d,r2]
section
variable {A:ew} (B:fj A) (C:A.length<=200)
include B C
end
end
section
theorem LU {A:ew} (B:fj A) (d:c∈g2 A a):∃b:X,c=(b:Z)/\b<A.length/\a<=b:=by have e:=d;unfold g2 ud at d;grind
section
variable {A:ew} (B:fj A) (C:A.length<=200)
include B C
section
variable {D:ahc} {m:X} {s e:X->X} (F:Rz A.length (Pp A)) (G:KB A.length (Pp A) D m s e)
include F G
end
def vJ (a:bm dc) (c b:X):Prop:=b<a.length/\be a b<=c/\c<be a (b+1)
omit B C in
theorem vJ.last {c:bm dc} (f:lM j c) (d:vJ c b a):hk (be c) b c.length=(a:Z):=
 wv (m:=c.length) (λg e=>⟨e,f.1 g e⟩) d.1 d.2.1 d.2.2 c.length d.1 (bd _)
end
end
def hO.parent {b:bm dc} (q:hO s b) (g:a<b.length):(b[a].2.2.2.1=-1\/∃d:X,b[a].2.2.2.1=(d:Z)/\d<b.length)/\∀c,(e:c<b[a].2.2.1.length)->b[a].2.1<=b[a].2.2.1[c]->∃d:X,b[a].2.2.2.1=(d:Z)/\d<b.length/\b[a].2.2.1[c]∈gR b (d:Z):=by
 obtain⟨k,r,p,_⟩:=q;obtain⟨z,A,B,C⟩:=(k.1 a g).at g;have l:=r a g;rcases p a g with⟨i,f⟩|⟨i,f,o⟩
 ·refine⟨.inl f,λc e v=>?_⟩;have:=(l.2 c (c8 _) e e).1 aa;omega
 have y:=(l.2 _ (c8 _) i i).2 (bd _);obtain⟨h,n⟩:∃h:X,b[a].2.2.1[(b[a].2.1-b[a].1).toNat]=(h:Z):=⟨(b[a].2.2.1[(b[a].2.1-b[a].1).toNat]).toNat,aa⟩;rw[n] at y;obtain⟨d,m,w,x⟩:=wu k (aa:h<s.length);have u:=vJ.last k (⟨m,w,x⟩:vJ b h d);rw[n,fA,u] at f;refine⟨.inr ⟨d,f,m⟩,λc e v=>?_⟩;refine⟨d,f,m,?_⟩;have t:(b[a].2.1-b[a].1).toNat<=c:=by
  rcases cS c (b[a].2.1-b[a].1).toNat with j|j
  ·have:=(l.2 c (c8 _) e e).1 j;omega
  exact j
 have:=o c t e;rw[f] at this;exact this
structure oS {α:Type} (lt:α->α->bA):Prop where
 SS:∀a b,lt a b=bp->lt b a=bq
 trans:∀a b c,lt b a=bq->lt c b=bq->lt c a=bq
theorem oS.int:oS (λa b:Z=>br (a<b)):=⟨λa b d=>by grind,λa b c e f=>by grind⟩
def tA {b:Type} (g:b->b->bA) (c:X->b) (e f:X):Prop:=∀d a,d<a->a<=e->a≠f->g (c a) (c d)=bq
def oT {b:Type} (f:b->b->bA) (c:X->b) (e:X):Prop:=∀d a,d<a->a<e->f (c a) (c d)=bq
def swp {c:Type} (b:X->c) (a:X):X->c:=eC (eC b a (b (a-1))) (a-1) (b a)
def QR (b:X->h) (c:X):swp b a c=if c=a-1 then b a else if c=a then b (a-1) else b c:=rfl
def tA.swp {k:Type} {h:k->k->bA} (m:oS h) {f:X->k} {j a:X} (g:tA h f j a) (q:0<a) (r:a<=j) (n:h (f a) (f (a-1))=bp):tA h (swp f a) j (a-1):=by
 intro e b p i o;rw[QR,QR,aw o];by_cases c:b=a
 ·subst c;rw[au bn];by_cases d:e=b-1
  ·rw[au d];exact m.SS _ _ n
  rw[aw d,aw aa];exact g e (b-1) aa aa aa
 rw[aw c];by_cases d:e=a-1
 ·rw[au d];exact g a b aa i c
 rw[aw d];by_cases l:e=a
 ·rw[au l];exact g (a-1) b aa i c
 rw[aw l];exact g e b p i c
theorem tA.done {e:h->h->bA} (k:oS e) {c:X->h} (j:tA e c b a) (n:a<=b) (d:a=0\/e (c a) (c (a-1))=bq):oT e c (b+1):=by
 intro g f l o;by_cases i:f=a
 ·subst i;rcases d with d|d
  ·omega
  by_cases m:g=f-1
  ·grind
  exact k.trans _ _ _ (j g (f-1) aa aa aa) d
 exact j g f l aa i
theorem QS {c:X->h} (f:0<a) (g:a<b):(aB b (swp c a)).Perm (aB b c):=by have d:a<(aB b c).length:=(by grind [cY]);have e:a-1<(aB b c).length:=aa;have:=List.set_set_perm d e;rw[lx,lx,hC,hC] at this;exact this
theorem Dr [Inhabited h] (a:bm h):a=aB a.length (λb=>a[b]?.getD default):=UW a _ (λb c=>by grind)
theorem V4 (b:ahc) (C:b.length<=1000):ae (CG (b,0,(b.length:Z),())) (λd=>∃a,d.1=aB b.length a/\oT (λf g=>br (f<g)) a b.length/\d.1.Perm b):=by
 unfold CG;simp only[];generalize t:b.length=c at*;have u:bK.wrap (0+1)=((1:X):Z):=(by grind [cq]);rw[u];rcases n0 c with z|w
 ·subst z;refine bE (P:=λd=>d.1=b) ?_ ?_
  ·refine ahx (λj=>j=(((1:X):Z),b,())) (λ_=>0) rfl ?_;rintro _ rfl;simp only[cQ];rw[aw aa];grind [bu]
  rintro⟨d,_⟩ rfl;refine bu.2 ⟨λ_=>0,?_,λm n o p=>by omega,aju _⟩;show d=[];grind
 refine bE (P:=λd=>∃a,d.1=aB c a/\oT (λf g=>br (f<g)) a c/\d.1.Perm b) ?_ (λd y=>bu.2 y);refine ae.for c (λh A=>∃a,A=(aB c a,())/\oT (λf g=>br (f<g)) a h/\(aB c a).Perm b) rfl ⟨λh=>b[h]?.getD default,?_,λm n o p=>by omega,?_⟩ w ?_ ?_
 ·rw[<-t,<-Dr]
 ·rw[<-t,<-Dr]
 ·rintro h _ o p ⟨a,rfl,q,i⟩;simp only[cQ];rw[au aa];refine bE (P:=λd=>∃a,d=(aB c a,())/\oT (λf g=>br (f<g)) a (h+1)/\(aB c a).Perm b) ?_ ?_
  ·refine ahx (λj=>∃(e:X) (a:X->Z),j=((e:Z),aB c a,())/\e<=h/\tA (λf g=>br (f<g)) a h e/\(aB c a).Perm b) (λj=>j.1.toNat) ⟨h,a,bn,bd _,λm n x E D=>q m n x aa,i⟩ ?_;rintro _ ⟨e,a,rfl,l,k,i⟩;simp only[yK];by_cases r:0<e
   ·have B:e-1<c:=aa;have v:e<c:=aa;simp(disch:=omega) only[au,cY,vx,eT,gW,aC,Kx,cQ];by_cases s:a e<a (e-1)
    ·rw[au s];simp(disch:=omega) only[aC,cY,vx,eT,gW,hC];refine bu.2 ⟨⟨e-1,swp a e,bn,aa,k.swp oS.int r l (by grind),(QS r v).trans i⟩,?_⟩;omega
    rw[aw s];exact bu.2 ⟨a,bn,k.done oS.int l (.inr (by grind)),i⟩
   rw[aw aa];exact bu.2 ⟨a,bn,k.done oS.int l (.inl aa),i⟩
  grind [iT,bu]
 rintro _ ⟨a,rfl,q,i⟩;simp only[cQ];rw[aw aa];grind [bu]
theorem oT.pairwise {b:X->Z} (e:oT (λc d=>br (c<d)) b a):(aB a b).Pairwise (· <= ·):=by rw[h0];intro g h i j f;rw[lx,lx];have:=e g h f (by grind [cY]);grind
theorem Kw (a:X) (c:a<=12):∃b,Cp ((a:Z),())=Y (b,()):=by
 have:a=0\/a=1\/a=2\/a=3\/a=4\/a=5\/a=6\/a=7\/a=8\/a=9\/a=10\/a=11\/a=12:=aa;rcases this with rfl|rfl|rfl|rfl|rfl|rfl|rfl|rfl|rfl|rfl|rfl|rfl|rfl
 ·exact⟨0,by kernel_rfl⟩
 ·exact⟨1,by kernel_rfl⟩
 ·exact⟨2,by kernel_rfl⟩
 ·exact⟨2,by kernel_rfl⟩
 ·exact⟨3,by kernel_rfl⟩
 ·exact⟨3,by kernel_rfl⟩
 ·exact⟨3,by kernel_rfl⟩
 ·exact⟨3,by kernel_rfl⟩
 ·exact⟨4,by kernel_rfl⟩
 ·exact⟨4,by kernel_rfl⟩
 ·exact⟨4,by kernel_rfl⟩
 ·exact⟨4,by kernel_rfl⟩
 exact⟨4,by kernel_rfl⟩
theorem aaM (a:ahc) (c:Z) (h:a.length<=12):ae (CJ (a,0,(a.length:Z),c,())) (λb=>b.1.Pairwise (· <= ·)/\b.1.Perm a):=by obtain⟨b,i,g,f,e,d⟩:=V4 a aa;refine⟨b,?_,by rw[f];exact e.pairwise,d⟩;unfold CJ;dsimp only;rw[DZ];dsimp only;have j:bK.wrap ((a.length:Z)-0)=((a.length:X):Z):=(by rw[aj6];grind [AV]);grind
theorem R4 (a:ahc) (c:a.length<=12):ae (zc (a,())) (λb=>b.1.Pairwise (· <= ·)/\b.1.Perm a):=by grind [bE,aaM,bu,Kw,Kh,zc]
section
open Go
theorem TG (h:f.Pairwise (· <= ·)):(ah5 f).length<f.length↔¬f.Nodup:=by
 have g:(ah5 f).length=((bH f.length).filter (akl f.toArray)).length:=(by simp[ah5,Lib.compactUpTo]);have d:(∀a,a<f.length->akl f.toArray a=bp)↔f.Nodup:=by
  have e:∀a,(b:a<f.length)->(akl f.toArray a=bp↔a=0\/f[a]≠f[a-1]):=λa b=>(by grind [akl]);constructor
  ·intro b;have c:f.Pairwise (· < ·):=by
    grind [ahh,An]
   exact c.imp (λb=>by omega)
  grind [aiA]
 grind [cl,ah8,List.length_filter_eq_length_iff,ain,ahF]
def adq (a:ahc) (e:a.length<=12):BX (a,())=Y (br (¬a.Nodup),()):=by obtain⟨c,g,h,b⟩:=R4 a e;have f:=b.length_eq;unfold BX AS;simp only[g,jo,aC];rw[show b2 a.length 1000000=bp from amw aa];simp only[bG];rw[show b2 c.1.length 1000000=bp from amw aa];simp only[bG,jo];have d:br ((ah5 c.1).length<a.length)=br (¬a.Nodup):=(by rw[cu,<-f,TG h,b.nodup_iff]);rw[d]
def ih (a:X) (b:X->X->bA):eu:=aB a λc=>aB a (b c)
theorem z5 (a:X) (b:X->X->bA):(ih a b).length=a:=cY a _
def NW {d:X->X->bA} (e:∀b c,b<a->c<a->r b c=d b c):ih a r=ih a d:=c9 λb f=>c9 λc g=>e b c f g
theorem Kz (a:X) (e:a<=4294967296):yV ((a:Z),())=Y (ih a λ_ _=>bq,()):=by
 unfold yV;simp only[];rw[ij e];simp only[aC];refine ah (y:=(ih a λ_ _=>bq,())) (z2 a (λd=>(aB a (λb=>if b<d then bJ a bq else[]),())) 0 bn ?_ (c8 _) ?_ ?_) rfl
 ·rw[jj];simp
 ·intro d _ f;simp(disch:=omega) only[cY,qD,cQ,au,aC,eT,gW,hC,iT];congr 4;refine c9 λb c=>?_;simp only[eC];grind
 simp only[qD,cQ];rw[aw aa];congr 2;refine b3 (·,()) (c9 λb c=>?_);rw[au c,jj]
theorem Kv {n:X} {B:X->X->bA} {i j:X} (k:i<n) (l:j<n):yY (ih n B,(i:Z),(j:Z),())=Y (ih n (λa b=>B a b||(br (i≠j)&&((br (a=i)&&br (b=j))||(br (a=j)&&br (b=i))))),()):=by
 unfold yY;simp only[gb];by_cases e:i=j
 ·simp_all
 rw[aF (aa:¬((i:Z)=(j:Z)))];unfold ih;simp(disch:=omega) only[me,bG,cY,eT,aC,gW,jo,hC];rw[show eC (λg=>aB n (B g)) i (aB n (eC (B i) j bp)) j=aB n (B j) from he _ _ (λd=>e d.symm)];simp(disch:=omega) only[cY,eT,aC,gW,jo,hC];congr 2;refine c9 λa h=>?_;simp only[eC];by_cases c:a=j
 ·rw[au c,c];grind [c9,eC]
 rw[aw c];by_cases f:a=i
 ·subst f;rw[au bn];grind [c9,eC]
 simp_all
theorem RP (i:b<=4294967296) (f:a<b):BU (ih b r,(a:Z),())=Y (a5 ((bH b).filter (r a)),()):=by
 unfold BU;simp only[];rw[show al (ih b r) (a:Z)=Y (aB b (r a)) from rj f];simp only[aC];refine ah (y:=(a5 ((bH b).filter (r a)),())) (z2 b (λc=>(a5 ((bH c).filter (r a)),())) 0 bn rfl (c8 _) ?_ ?_) rfl
 ·intro c _ g;have h:(a5 ((bH c).filter (r a))).length<=c:=(by grind [ahF,fI]);have e:a5 ((bH (c+1)).filter (r a))=if r a c=bp then a5 ((bH c).filter (r a))++[(c:Z)] else a5 ((bH c).filter (r a)):=by
   grind [ahG,oo,a5]
  simp(disch:=omega) only[cY,cQ,au,rj,aC,iT];rw[e];by_cases d:r a c=bp
  ·rw[au d,d,eB (by grind)];rfl
  grind
 simp_all [cY,cQ,aw]
def j5 (a:X) (b:X->X->bA):ew:=aB a λc=>a5 ((bH a).filter (b c))
theorem Kt (e:a<=4294967296):yX (ih a r,())=Y ((j5 a r,()),()):=by
 unfold yX;simp only[z5];rw[ij e];simp only[aC];refine ah (y:=(([],()),(j5 a r,()),())) (z2 a (λd=>(([],()),(aB a (λb=>if b<d then a5 ((bH a).filter (r b)) else[]),()),())) 0 bn ?_ (c8 _) ?_ ?_) rfl
 ·rw[jj];simp
 ·intro d _ f;simp(disch:=omega) only[cQ,au,RP,aC,cY,eT,gW,jo,hC,iT];congr 6;refine c9 λb c=>?_;simp only[eC];grind
 simp only[cQ];rw[aw aa];have:(aB a λb=>if b<a then a5 ((bH a).filter (r b)) else[])=j5 a r:=c9 λb c=>(by rw[au c]);grind
end
section
open Go
def ga (a:ahc) (b:X):Prop:=a.length=b/\(∀c∈a,0<=c/\c<(b:Z))/\a.Nodup
open Classical in
theorem RU (a:ahc) (c:X) (s:c<=4294967296):CN (a,(c:Z),())=Y (br (ga a c),()):=by
 unfold CN;simp only[gb];by_cases m:a.length=c
 ·rw[aH (aa:(((a.length:X):Z)=(c:Z)))];simp only[gT,bO,ij s,aC,jj];rw[<-bP];refine bE (P:=λu=>match u with|.inl _=>ga a c|.inr v=>v=(bq,())/\¬ga a c) ?_ ?_
  ·refine ae.for c (λb w=>w=(aB c (λp=>br ((p:Z)∈a.take b)),())/\(∀e,(d:e<a.length)->e<b->0<=a[e]/\a[e]<(c:Z))/\(a.take b).Nodup) (i0:=0) rfl ⟨ac,λe _ d=>by omega,ac⟩ (c8 _) ?_ ?_
   ·rintro b _ _ x ⟨rfl,t,q⟩;have l:b<a.length:=aa;have k:al a (b:Z)=Y a[b]:=gQ (bc l);have o:a[b]∈a:=cO l;simp(disch:=omega) only[cQ,au,k,aC,wx];by_cases i:a[b]<0
    ·rw[au i];exact bu.2 ⟨bn,λd=>by have:=d.2.1 _ o;omega⟩
    rw[aw i];by_cases j:a[b]>=(c:Z)
    ·rw[au j];exact bu.2 ⟨bn,λd=>by have:=d.2.1 _ o;omega⟩
    rw[aw j];obtain⟨f,h⟩:∃f:X,a[b]=(f:Z):=⟨a[b].toNat,aa⟩;have B:f<c:=aa;rw[h];simp(disch:=omega) only[cY,eT,aC,gW,cQ];by_cases g:(f:Z)∈a.take b
    ·rw[au g];refine bu.2 ⟨bn,λd=>?_⟩;obtain⟨D,r,n⟩:=ho.1 g;simp only[gh] at r;simp only[List.getElem_take] at n;have:=(qB d.2.2).1 (n.trans h.symm);omega
    rw[aw g];simp(disch:=omega) only[aC,k,h,cY,eT,gW,hC,iT];have A:a.take (b+1)=a.take b++[(f:Z)]:=(by grind [tk]);refine bu.2 ⟨bn,?_,λe y z=>?_,?_⟩
    ·show((_,()):_×bt)=_;refine b3 (·,()) (c9 λp _=>?_);simp only[eC];grind
    ·grind
    grind
   rintro _ ⟨rfl,t,q⟩;simp(disch:=omega) only[cQ,aw];refine bu.2 ⟨m,λE C=>?_,?_⟩
   ·grind [ahY]
   grind
  grind [bu,aH,aF]
 rw[aF (aa:¬(((a.length:X):Z)=(c:Z)))];simp only[me,bG];rw[aF (λd=>m d.1)]
def mE (a:ew) (b:ahc):Z:=open Classical in if iC a≠0 then iC a else if b.length≠a.length then 2 else if ga b a.length then 0 else 90
theorem Jr (d:∀h∈s,h.length<4611686018427387904) (a:ahc):q2 ((s,()),a,())=Y (if mE s a=0 then((jP (j6 s a),()),0,()) else(([],()),mE s a,())):=by
 classical
 unfold q2 mE;simp only[AB s d,aC,gb];by_cases c:iC s=0
 ·obtain⟨g,e⟩:=qR.1 c;rw[aH c];simp only[gT,bO,c,ne_eq,aiZ,if_false];by_cases f:a.length=s.length
  ·rw[aH (aa:(((a.length:X):Z)=((s.length:X):Z)))];simp only[gT,bO,f,aiZ,if_false];rw[RU a s.length aa];simp only[aC];by_cases b:ga a s.length
   ·rw[aH b];simp only[gT,bO,au b,cg];rw[RN e d g b.2.1 b.2.2 aa];rfl
   grind
  grind
 grind
theorem adW (b:ew) (a:Z):BY ((b,()),a,())=Y (br (0<=a/\a<(b.length:Z)),()):=by unfold BY;grind
theorem aaB (d:ew) (a:ahc) (j:a.length<4611686018427387904):CB (a,(Y (d,()),()),())=Y (br (¬∀c∈a,0<=c/\c<(d.length:Z)),()):=by
 classical
 unfold CB Gw;simp only[];rw[<-bP];have i:(∀c∈a,0<=c/\c<(d.length:Z))↔∀b,b<a.length->∀e:b<a.length,0<=a[b]/\a[b]<(d.length:Z):=
  ⟨λe b _ f=>e _ (cO f),λe c k=>by grind [ahY]⟩
 refine bE (P:=λg=>br (g.1>=0)=br (¬∀c∈a,0<=c/\c<(d.length:Z))) ?_ (λg h=>bu.2 (by rw[h]));refine bE (Ii a.length (λb=>∀e:b<a.length,0<=a[b]/\a[b]<(d.length:Z)) ?_ ?_) ?_
 ·intro b f;simp(disch:=omega) only[cQ,au,gQ (bc f),aC,iT];unfold Gj;simp only[aC,adW];grind
 ·grind
 grind [bu,aF,aH]
theorem RV (i:∀m∈s,m.length<4611686018427387904) (a:ahc) (k:s.length<=200->fj s->s.length<=12) (l:a.length<4611686018427387904):BT ((s,()),a,())=Y (mE s a,()):=by
 classical
 unfold BT mE;simp only[Fm s i,aC,gb];by_cases e:iC s=0
 ·obtain⟨j,h⟩:=qR.1 e;have n:=k j h;rw[aH e];simp only[gT,bO,e,ne_eq,aiZ,if_false];by_cases f:a.length=s.length
  ·rw[aH (aa:(((a.length:X):Z)=((s.length:X):Z)))];simp only[gT,bO,f,aiZ,if_false];rw[aaB s a l];simp only[aC];by_cases b:∀g∈a,0<=g/\g<(s.length:Z)
   ·rw[aF (ahe b)];simp only[ahM,bG];rw[adq a aa];simp only[aC,cQ];by_cases c:a.Nodup
    ·rw[aw (ahe c),au ⟨f,b,c⟩]
    rw[au c,aw (λd=>c d.2.2)]
   rw[aH b,aw (λd=>b d.2.1)];rfl
  grind
 grind
end
section
open Go
def p7 (c:ew) (a:ahc) (b d:X):bA:=br (a.getD d 0∈c.getD (a.getD b 0).toNat [])
theorem Ng (k:fj s) (i:∀c∈f,0<=c/\c<(s.length:Z)) (l:a<f.length) (m:b<f.length):p7 s f a b=p7 s f b a:=by have n:=i _ (cO l);have o:=i _ (cO m);have u:∀c d:Z,0<=c/\c<(s.length:Z)->0<=d/\d<(s.length:Z)->d∈s.getD c.toNat []->c∈s.getD d.toNat []:=λc d r t h=>(by obtain⟨e,rfl⟩:∃e:X,c=(e:Z):=⟨c.toNat,aa⟩;obtain⟨g,rfl⟩:∃g:X,d=(g:Z):=⟨d.toNat,aa⟩;simp only[fA] at h|-;have j:e<s.length:=aa;have q:g<s.length:=aa;rw[xb j] at h;obtain⟨_,p⟩:=ali k e g ⟨j,h⟩;grind);unfold p7;grind
theorem Vv (e:fj s) (g:∀d∈f,0<=d/\d<(s.length:Z)):j5 f.length (λa b=>br (a≠b)&&p7 s f a b)=jP (j6 s f):=by unfold j5 jP;rw[xe];refine ik λi c=>?_;have c:=h9.1 c;unfold a5 mC;refine b3 _ (pA λj h=>?_);grind [Bool.or_self,Ng,FY,p7]
theorem VY (r:fj s) (t:∀f∈s,f.length<4611686018427387904) (x:∀o∈f,0<=o/\o<(s.length:Z)) (G:f.length<=400):BW ((s,()),f,())=Y ((jP (j6 s f),()),()):=by
 generalize m:f.length=c at*
 let h:X->X->X->X->bA:=λa b d e=>br (d≠e)&&(p7 s f d e&&((br (d<a)&&br (e<a))||((br (d=a)&&br (e<b))||(br (e=a)&&br (d<b)))))
 unfold BW;simp only[m];rw[Kz c aa];simp only[aC];refine ah (y:=(([],()),ih c (h c 0),())) (z2 c (λa=>(([],()),ih c (h a 0),())) 0 bn ?_ (c8 _) ?_ ?_) ?_
 ·grind
 ·intro a _ w;have l:a<f.length:=aa;have u:al f (a:Z)=Y f[a]:=gQ (bc l);have k:=x _ (cO l);obtain⟨g,n⟩:∃g:X,f[a]=(g:Z):=⟨f[a].toNat,aa⟩;have i:g<s.length:=aa;simp(disch:=omega) only[cQ,au,u,aC,u1,m,qa,jo,n,lj];have z:(f.take a).length=a:=(by grind);refine ah (y:=(([],()),ih c (h a a),())) (z2 a (λb=>(([],()),ih c (h a b),())) 0 bn rfl (c8 _) ?_ ?_) ?_
  ·intro b _ E;have F:b<f.length:=aa;have v:al (f.take a) (b:Z)=Y f[b]:=gQ (by grind);simp(disch:=omega) only[z,cQ,au,v,aC,iT];rw[HX s g f[b] i (t _ (cO i)) ((FJ s).1 r g i).1];simp only[aC,cQ];have p:p7 s f a b=br (f[b]∈s[g]):=by
    grind [xb,ahR,p7]
   have q:p7 s f b a=br (f[b]∈s[g]):=(by grind [Ng]);by_cases j:f[b]∈s[g]
   ·rw[au j,Kv w aa];simp only[aC];refine b3 (λA=>Y (Sum.inl (((b+1:X):Z),([],()),A,()))) (NW λd e _ _=>?_);rw[aH j] at p q;simp only[h];rw[vF];simp only[jl,cC,ahD];constructor
    ·rintro(⟨k,C,D⟩|⟨k,⟨rfl,rfl⟩|⟨rfl,rfl⟩⟩)
     ·grind
     ·grind
     grind
    grind
   grind
  ·grind
  simp(disch:=omega) only[iT];grind
 ·grind
 rw[Kt aa];simp only[aC];have B:j5 c (h c 0)=j5 c (λd e=>br (d≠e)&&p7 s f d e):=(by refine c9 λg n=>b3 a5 (pA λI H=>?_);grind);grind [Vv]
theorem RZ (c:∀j∈s,j.length<4611686018427387904) (a:ahc) (g:s.length<=200->fj s->s.length<=12) (h:a.length<4611686018427387904):yW ((s,()),a,())=Y (if mE s a=0 then((jP (j6 s a),()),0,()) else(([],()),mE s a,())):=by
 classical
 unfold yW;simp only[RV c a g h,aC,gb];by_cases b:mE s a=0
 ·rw[aH b,au b];simp only[gT,bO];have e:iC s=0:=by
   by_cases i:iC s=0
   ·exact i
   simp_all [au,mE,absurd]
  obtain⟨k,f⟩:=qR.1 e;have d:ga a s.length:=(by unfold mE at b;grind);rw[VY f c d.2.1 (by have:=d.1;omega)];rfl
 grind
end
def jR (E:bm cV) (b c:X):bA:=E.any λa=>br (a.1≠a.2.1)&&((br ((b:Z)=a.1)&&br ((c:Z)=a.2.1))||(br ((b:Z)=a.2.1)&&br ((c:Z)=a.1)))
def lH (E:bm cV) (b c:X):bA:=E.any λa=>br ((b:Z)=a.1)&&br ((c:Z)=a.2.1)
theorem FO {b:h->bA} {E:bm h} (c:a<E.length):(E.take (a+1)).any b=((E.take a).any b||b E[a]):=by grind [ct,bR]
theorem WX (a:X) (b:X->X->bA) (e:∀c d,b c d=bq):(bJ a (bJ a bq))=ih a b:=by grind [c9,jj,ih]
theorem SZ (c:b<a) (d:j<a):hz (ih a r) b j=r b j:=by grind [ju,aB,hz,ih]
theorem MQ (d:X) (b:X->X->bA):jP (ih d b)=j5 d λa c=>a !=c&&(b a c||b c a):=by unfold jP;rw[z5];refine c9 λa e=>?_;grind [SZ,List.filter_congr,mC,a5]
theorem No {E:bm cV} (a b:X):(a !=b&&(lH E a b||lH E b a))=jR E a b:=by
 induction E with
 |nil=>simp[lH,jR]
 |cons h E g=>
  unfold lH jR at*;simp only[List.any_cons];rw[<-g,vF];simp only[cC,jl,bne_iff_ne,ahD];constructor
  ·rintro⟨f,(⟨d,e⟩|c)|(⟨d,e⟩|c)⟩
   ·omega
   ·grind
   ·omega
   grind
  rintro(⟨f,⟨d,e⟩|⟨d,e⟩⟩|⟨f,c|c⟩)
  ·omega
  ·omega
  ·grind
  grind
theorem RL (e:jq a a t f u) (m:gI a a t f u=0):yU (((a:Z),(a:Z),t,f,u,()),())=Y ((j5 a (jR (cX t f u a)),()),0,()):=by
 have k:=(jM.1 m).1;have s:=q6 k;have y:(cX t f u a).length<=10000:=(by rw[zG k a (cc _)];have:=k.sQ a (cc _);have:=e.hi;omega);unfold yU;refine ah e.check ?_;dsimp only;rw[m,gb,aH bn,gb,aH bn];have x:=e.hc;refine ah (Kz a aa) (ah (RE e m) ?_);dsimp only;generalize cX t f u a=E at*;refine bP.1 ?_;refine bE (P:=λv=>v=(([],()),ih a (jR E),())) ?_ ?_
 ·refine bS E.length (λb w=>w=((b:Z),([],()),ih a (jR (E.take b)),E,())) rfl ?_ ?_
  ·rintro b _ l rfl;dsimp only;rw[aY (aH (show(b:Z)<ak E by grind)),lE l,bk aa];have r:=s E[b] (b6 l);obtain⟨c,o⟩:=ahi r.1;obtain⟨d,p⟩:=ahi r.2.2.1;have q:=Kv (n:=a) (B:=jR (E.take b)) (i:=c) (j:=d) aa aa;rw[<-o,<-p] at q;refine bz q (bu.2 ?_);dsimp only;have:ih a (λg h=>jR (E.take b) g h||(br (c≠d)&&((br (g=c)&&br (h=d))||(br (g=d)&&br (h=c)))))=ih a (jR (E.take (b+1))):=by
    refine NW λz A _ _=>?_;unfold jR;rw[FO l,o,p];grind
   grind
  rintro _ rfl;dsimp only;rw[a1 (aF (show¬((E.length:Z)<ak E) by grind)),ck (cc _)];grind [bu]
 grind [bz,Kt,bu]
theorem PH (e:jq a a t f u) (j:gI a a t f u=0):sx (((a:Z),(a:Z),t,f,u,()),())=Y ((j5 a (jR (cX t f u a)),()),0,()):=by
 have h:=(jM.1 j).1;have o:=q6 h;have y:(cX t f u a).length<=10000:=(by rw[zG h a (cc _)];have:=h.sQ a (cc _);have:=e.hi;omega);unfold sx;refine ah e.xO ?_;dsimp only;rw[j,gb,aH bn,gb,aH bn];have x:=e.hc;refine ah (Mm a aa) (ah (PG e j) ?_);dsimp only;generalize cX t f u a=E at*;refine bP.1 ?_;refine bE (P:=λv=>v=(([],()),ih a (lH E),())) ?_ ?_
 ·refine bS E.length (λc w=>w=((c:Z),([],()),ih a (lH (E.take c)),())) ?_ ?_ ?_
  ·rw[WX a (lH (E.take 0)) λb g=>rfl];rfl
  ·rintro c _ i rfl;dsimp only;rw[aY (aH (show(c:Z)<ak E by grind)),bk aa];have n:=o E[c] (b6 i);obtain⟨d,p⟩:=ahi n.1;obtain⟨k,q⟩:=ahi n.2.2.1;have m:d<a:=aa;have r:k<a:=aa;refine bz (eY i) ?_;rw[p];refine bz (eT (by grind [z5])) (bz (eY i) ?_);rw[q];unfold ih;rw[gW m,bN];refine bz (eT (by grind [cY])) ?_;rw[gW m,gW r,hC,ajs,bN,hC];refine bu.2 ?_;have:aB a (eC (λb=>aB a (lH (E.take c) b)) d (aB a (eC (lH (E.take c) d) k bp)))=aB a λb=>aB a (lH (E.take (c+1)) b):=by
    refine c9 λb z=>?_;by_cases l:b=d
    ·subst l;grind [he,aF,gM,FO,c9,lH]
    rw[he _ _ l];grind [FO,aF,c9,lH]
   grind
  rintro _ rfl;dsimp only;rw[a1 (aF (show¬((E.length:Z)<ak E) by grind)),ck (cc _)];grind [bu]
 rintro _ rfl;dsimp only;refine bz (Ks _ (λA s=>?_) (by grind [z5])) (bu.2 ?_)
 ·rw[z5];unfold ih aB at s;grind
 dsimp only;rw[MQ];have:(λb g=>b !=g&&(lH E b g||lH E g b))=jR E:=(by grind [No]);grind
section
open Go
def nK (b:ahc) (a:X):X:=(b.getD a 0).toNat
theorem ga.get {n:X} (b:ga f n) (c:a<n):al f (a:Z)=Y ((nK f a:X):Z)/\nK f a<n:=by have d:a<f.length:=(by rw[b.1];exact c);have e:=b.2.1 _ (cO d);grind [gQ,bR,xb,nK]
theorem ga.inj (c:ga f b) {j:X} (h:j<b) (i:a<b) (d:nK f j=nK f a):j=a:=by have e:j<f.length:=(by rw[c.1];exact h);have g:a<f.length:=(by rw[c.1];exact i);have k:=c.2.1 _ (cO e);have l:=c.2.1 _ (cO g);unfold nK at d;rw[xb e,xb g] at d;exact(qB c.2.2).1 aa
end
section
open Go
theorem XG:∀{n:X} {a:ahb},a.Nodup->(∀d∈a,d<n)->a.length<=n:=by
 intro n
 induction n with
 |zero=>intro a _ b;cases a with
  |nil=>grind
  |cons e a=>grind [alg]
 |succ n g=>
  intro a c b;have f:(a.erase n).Nodup:=c.erase n;grind
section
variable {A:ew} (B:fj A)
include B
end
end
section
open Go
def Df (A:ew) (a:Z):X:=(A.getD a.toNat []).length
section
variable {A:ew} (B:fj A) (C:A.length<=200)
include B C
end
end
section
open Go
def DO (k:Z->Z->aha) (l:ahc) (f j:Z):bv eh:=
 (loop (σ:=eb) (ρ:=eh) (λ(d,g,_)=>
  bif br (d<j) then
 (loop (σ:=eb) (ρ:=eh) (λ(a,c,_)=>
 bB (α:=eh⊕dJ) (bif br (a>f)==bp then(bj c.length a).bind λv=>
 (bb c v λo=>Y o).bind λz=>
 (bj c.length (bK.wrap (a-(1:Z)))).bind λs=>
 (bb c s λp=>Y p).bind λA=>
 (k z A).bind λ(y,_)=>
  bif br (y<(0:Z)) then
 Y (.inl (c,())) else
 Y (.inr (.inr (c,()))) else Y (.inr (.inr (c,())))) λw=>match w with
 |.inl (b,_)=>(
 (bj b.length (bK.wrap (a-(1:Z)))).bind λt=>
 (bb b t λq=>Y q).bind λB=>
 (bj b.length a).bind λu=>
 (bb b u λr=>Y r).bind λC=>
 (bj b.length a).bind λh=>
 (bb b h λ_=>Y (b.set h B)).bind λe=>
 (bj e.length (bK.wrap (a-(1:Z)))).bind λi=>
 (bb e i λ_=>Y (e.set i C)).bind λD=>
 Y (.inl (bK.wrap (a-(1:Z)),D,())))
 |.inr x=>Y x) (d,g,())).bind λ(m,_)=>
 Y (.inl (bK.wrap (d+(1:Z)),m,())) else
 Y (.inr (g,()))) (bK.wrap (f+(1:Z)),l,())).bind λ(n,_)=>
 Y (n,())
def V0 {cmp:Z->Z->aha} {h:Z->Z->bA} (m:oS h) (c:ahc) (A:∀r s,r∈c->s∈c->∃d,cmp r s=Y (d,())/\(d<0↔h r s=bp)) (I:c.length<=1000):ae (DO cmp c 0 (c.length:Z)) (λd=>∃a,d.1=aB c.length a/\oT h a c.length/\d.1.Perm c):=by
 unfold DO;generalize o:c.length=e at*;have z:bK.wrap (0+1)=((1:X):Z):=(by rw[cq]<;>omega);rw[z];rcases n0 e with G|C
 ·subst G;refine bE (P:=λd=>d.1=c) ?_ ?_
  ·refine ahx (λj=>j=(((1:X):Z),c,())) (λ_=>0) rfl ?_;rintro _ rfl;simp only[cQ];rw[aw aa];exact bu.2 bn
  rintro⟨d,_⟩ rfl;refine bu.2 ⟨λ_=>0,?_,λp q t u=>by omega,aju _⟩;show d=[];exact qx o
 refine bE (P:=λd=>∃a,d.1=aB e a/\oT h a e/\d.1.Perm c) ?_ (λd E=>bu.2 E);refine ae.for e (λg H=>∃a,H=(aB e a,())/\oT h a g/\(aB e a).Perm c) rfl ⟨λg=>c[g]?.getD default,?_,λp q t u=>by omega,?_⟩ C ?_ ?_
 ·rw[<-o,<-Dr]
 ·rw[<-o,<-Dr]
 ·rintro g _ t u ⟨a,rfl,i,f⟩;simp only[cQ];rw[au aa];refine bE (P:=λd=>∃a,d=(aB e a,())/\oT h a (g+1)/\(aB e a).Perm c) ?_ ?_
  ·refine ahx (λj=>∃(b:X) (a:X->Z),j=((b:Z),aB e a,())/\b<=g/\tA h a g b/\(aB e a).Perm c) (λj=>j.1.toNat) ⟨g,a,bn,bd _,λp q D K J=>i p q D aa,f⟩ ?_;rintro _ ⟨b,a,rfl,n,l,f⟩;simp only[yK];by_cases v:0<b
   ·have B:b-1<e:=aa;have w:b<e:=aa;obtain⟨d,F,x⟩:=A (a b) (a (b-1)) (f.mem_iff.1 (NY.2 ⟨b,w,bn⟩)) (f.mem_iff.1 (NY.2 ⟨b-1,B,bn⟩));simp(disch:=omega) only[au,cY,vx,eT,gW,aC,F,cQ];by_cases k:h (a b) (a (b-1))=bp
    ·rw[au (x.2 k)];simp(disch:=omega) only[aC,cY,vx,eT,gW,hC];refine bu.2 ⟨⟨b-1,swp a b,bn,aa,l.swp m v n k,(QS v w).trans f⟩,?_⟩;show((b-1:X):Z).toNat<((b:X):Z).toNat;omega
    rw[aw (λy=>k (x.1 y))];exact bu.2 ⟨a,bn,l.done m n (.inr (by simpa using k)),f⟩
   rw[aw aa];exact bu.2 ⟨a,bn,l.done m n (.inl aa),f⟩
  rintro _ ⟨a,rfl,i,f⟩;simp(disch:=omega) only[iT];exact bu.2 ⟨bn,a,bn,i,f⟩
 rintro _ ⟨a,rfl,i,f⟩;simp only[cQ];rw[aw aa];exact bu.2 ⟨a,bn,i,f⟩
def NH (a:ew) (b c:Z):Prop:=Df a b<Df a c\/(Df a b=Df a c/\b<c)
instance(a:ew) (b c:Z):ahS (NH a b c):=by unfold NH;exact inferInstance
end
section
open Go
def hN (o:ahc) (a:X):X:=o.idxOf (a:Z)
section
variable {o:ahc} {n:X} (A:ga o n)
include A
theorem ga.mem (j:a<n):(a:Z)∈o:=by
 apply Classical.byContradiction;intro d;obtain⟨g,h,i⟩:=A;have e:o=a5 (o.map ahK):=by
  unfold a5;rw[oL]
  conv=>lhs;rw[<-List.map_id o]
  grind [ahv]
 have b:(o.map ahK).Nodup:=(by grind [ahh,b6]);have c:a∉o.map ahK:=λf=>d (by grind);have:=XG (n:=n) (jZ.2 ⟨c,b⟩) (λl k=>by
  grind)
 grind
theorem ga.pos (d:a<n):hN o a<n/\nK o (hN o a)=a:=by have b:=A.mem d;have c:hN o a<o.length:=amx.2 b;refine⟨by rw[<-A.1];exact c,?_⟩;grind [xb,hN,nK]
theorem ga.Px (b:a<n):hN o (nK o a)=a:=by have c:=(A.get b).2;obtain⟨d,e⟩:=A.pos c;exact A.inj d b e
end
section
variable {B:ew} (C:fj B) {o:ahc} (A:ga o B.length)
include C A
end
end
def mM (E:bm cV) (b c:Z):Z:=match E.find? λa=>br (a.1=b)&&br (a.2.1=c) with
 |some a=>a.2.2.1
 |none=>0
theorem Us {E:bm cV} (j:E.Pairwise hm) {a b:cV} (d:a∈E) (e:b∈E) (h:a.1=b.1) (i:a.2.1=b.2.1):a=b:=by
 obtain⟨f,k,rfl⟩:=ho.1 d;obtain⟨g,l,rfl⟩:=ho.1 e;rcases qE f g with c|c|c
 ·grind [ahh,hm]
 ·grind
 grind [ahh,hm]
theorem Kc {E:bm cV} (e:E.Pairwise hm) {x:cV} (f:x∈E):mM E x.1 x.2.1=x.2.2.1:=by
 unfold mM;cases b:E.find? λa=>br (a.1=x.1)&&br (a.2.1=x.2.1) with
 |none=>
  grind
 |some a=>
  have c:=List.find?_some b;have d:=akP b;simp only[cC,ahD] at c;grind [Us]
theorem Rh {E:bm cV} (b:∀a∈E,¬(a.1=c/\a.2.1=k)):mM E c k=0:=by grind [List.find?_eq_none,mM]
theorem Ri {E:bm cV} {a:cV} (e:(E++[a]).Pairwise hm) (c d:Z):mM (E++[a]) c d=if a.1=c/\a.2.1=d then a.2.2.1 else mM E c d:=by
 by_cases b:a.1=c/\a.2.1=d
 ·rw[au b,<-b.1,<-b.2,Kc e ac]
 rw[aw b];unfold mM;grind
theorem adN {E:bm cV} (f:∀d∈E,eJ d.2.2.1) (b c:Z):eJ (mM E b c):=by
 unfold mM;cases e:E.find? λa=>br (a.1=b)&&br (a.2.1=c) with
 |none=>exact⟨ab,ab⟩
 |some a=>grind
theorem Rg {E:bm cV} (d:∀c∈E,a8 c.2.2.1≠2047) (a b:Z):a8 (mM E a b)≠2047:=by grind [akP,decide,a8,mM]
theorem NX (g:ie j b f t u) (i:a<b) {e:cV}:e∈cX f t u b/\e.2.1=(a:Z)↔∃c:X,f.getD a 0<=(c:Z)/\(c:Z)<f.getD (a+1) 0/\e=(t.getD c 0,(a:Z),u.getD c 0,()):=by
 have q:=g.pos a aa;have r:=g.pos (a+1) aa;constructor
 ·rintro⟨d,k⟩;obtain⟨h,n,d⟩:=z7.1 d;obtain⟨s,p,rfl⟩:=uZ.1 d;have o:h=a:=(by grind);grind
 rintro⟨c,l,m,rfl⟩;refine⟨z7.2 ⟨a,i,uZ.2 ⟨c-(f.getD a 0).toNat,aa,?_⟩⟩,bn⟩;grind
theorem abk (k:jq j b t f u) (w:gI j b t f u=0) (h:Z) (n:a<b):GN (((j:Z),(b:Z),t,f,u,()),h,(a:Z),())=Y (mM (cX t f u b) h (a:Z),()):=by
 have e:=(jM.1 w).1;have A:=e.pos a aa;have B:=e.pos (a+1) aa;have I:=e.sQ (a+1) aa;have J:=e.val;have G:=e.mono a n;have F:=e.len;have E:=k.hi;have s:=p0 e b (bd _);have D:=k.hc;unfold GN;refine ah (y:=.inl ()) ?_ ?_
 ·refine ah k.xO ?_;grind
 dsimp only;rw[hj (aa:a<t.length),bN];refine bP.1 ?_;obtain⟨d,x⟩:=ahi A;obtain⟨g,v⟩:=ahi B;have r:al t (aP (a:Z))=Y (g:Z):=(by rw[bk aa,hj aa,v]);rw[r,x];refine bE (P:=λl=>(l=.inl ()/\∀c:X,d<=c->c<g->f.getD c 0≠h)\/∃c:X,d<=c/\c<g/\f.getD c 0=h/\l=.inr (u.getD c 0,())) ?_ ?_
 ·refine bS (g-d) (λi C=>C=(((d+i:X):Z),())/\∀c:X,d<=c->c<d+i->f.getD c 0≠h) ⟨bn,λc p m=>absurd m aa⟩ ?_ ?_
  ·rintro i _ H ⟨rfl,o⟩;dsimp only;rw[bN,aY (aH (aa:((d+i:X):Z)<(g:Z)))];refine bz (hj aa) ?_;by_cases q:f.getD (d+i) 0=h
   ·rw[aY (by grind)];refine bz (hj aa) (bu.2 ?_);grind
   rw[a1 (by grind),bk aa];grind [cl,bu]
  rintro _ ⟨rfl,o⟩;dsimp only;rw[bN,a1 (aF (aa:¬(((d+(g-d):X):Z)<(g:Z))))];grind [bu]
 rintro l (⟨rfl,o⟩|⟨c,p,m,q,rfl⟩)
 ·grind [NX,Rh,bu]
 refine bu.2 ?_;have z:=((NX e n).2 ⟨c,aa,aa,bn⟩).1;have:=Kc s z;grind
theorem abq (y:a<=10000) (z:f.length<=1000000):GR (f,(a:Z),())=Y (open Classical in decide (ga f a),()):=by
 classical
 unfold GR;dsimp only;by_cases n:f.length=a
 ·rw[a1 (by grind)];refine ah (ij aa) ?_;refine bP.1 ?_;refine bE (P:=λp=>(p=.inl ()/\ga f a)\/(p=.inr (bq,())/\¬ga f a)) ?_ ?_
  ·refine bS a (λb t=>t=((b:Z),aB a (λc=>br ((c:Z)∈f.take b)),())/\(∀d∈f.take b,0<=d/\d<(a:Z))/\(f.take b).Nodup) ?_ ?_ ?_
   ·grind [jj]
   ·rintro b _ x ⟨rfl,h,i⟩;dsimp only;rw[aY (aH (aa:(b:Z)<(a:Z))),eY (aa:b<f.length)];have o:f[b]'(by omega)∈f:=b6 _
    have r:f.take (b+1)=f.take b++[f[b]'(by omega)]:=by simp_all
    have j:∀d,d∈f.take (b+1)↔d∈f.take b\/d=f[b]'(by omega):=λd=>by rw[r,h8,gj]
    have q:(f.take (b+1)).Sublist f:=aki _ _;generalize B:f[b]'(by omega)=c at*
    simp only[aC];by_cases v:c<0
    ·rw[a1 (show(br (c<0)==bq)=bq by grind)];refine bu.2 (.inr ⟨bn,λg=>?_⟩);have:=g.2.1 c o;omega
    rw[aY (show(br (c<0)==bq)=bp by grind)];by_cases w:c>=(a:Z)
    ·rw[a1 (show(br (c>=(a:Z))==bq)=bq by grind)];refine bu.2 (.inr ⟨bn,λg=>?_⟩);have:=g.2.1 c o;omega
    rw[aY (show(br (c>=(a:Z))==bq)=bp by grind)];obtain⟨k,rfl⟩:=gg (aa:0<=c);rw[lE (by grind [cY]),lx];by_cases l:(k:Z)∈f.take b
    ·rw[aY (aH l)];refine bu.2 (.inr ⟨bn,λg=>?_⟩);have:=amy q g.2.2;grind
    rw[a1 (aF l)];simp only[aC];rw[lI (by grind [cY]),hC];refine bu.2 ⟨?_,?_,?_⟩
    ·rw[bk aa];have:aB a (eC (λc=>br ((c:Z)∈f.take b)) k bp)=aB a (λc=>br ((c:Z)∈f.take (b+1))):=by
      refine c9 λu A=>?_;by_cases m:u=k
      ·grind [gM,aH]
      rw[he _ _ m];refine cu.2 ⟨λe=>(j _).2 (.inl e),λe=>((j _).1 e).resolve_right λe=>m aa⟩
     grind
    ·intro d s;rcases(j d).1 s with e|e
     ·grind
     omega
    grind
   rintro _ ⟨rfl,h,i⟩;dsimp only;rw[a1 (aF (aa:¬((a:Z)<(a:Z))))];rw[ck aa] at h i;exact bu.2 (.inl ⟨bn,n,h,i⟩)
  grind [bu,aH,aF]
 rw[aY (by grind),aF (λe=>n e.1)]
theorem abu (c:jq a b t f u) (g:v.length<=1000000):GS (((a:Z),(b:Z),t,f,u,()),v,())=Y (open Classical in if gI a b t f u≠0 then gI a b t f u else if a≠b then 5 else if ga v a then 0 else 90,()):=by
 classical
 unfold GS;refine ah c.xO ?_;dsimp only;have h:=c.hr;by_cases d:gI a b t f u=0
 ·rw[d,gb,aH bn,aw (ahe bn)];by_cases e:a=b
  ·subst e;rw[gb,aH bn,aw (ahe bn)];refine ah (abq aa g) ?_;grind
  grind
 grind
theorem aa3 (d:a<f.length) (g:f[a]=(b:Z)) (e:(b:Z)∉f.take a):hN f b=a:=by unfold hN;have c:f=f.take a++(f[a]::f.drop (a+1)):=(by rw[List.getElem_cons_drop,kw]);grind
theorem aaS (B:a<=10000) (C:f.length<=1000000):Dd (f,(a:Z),())=Y (open Classical in if ga f a then(aB a (λb=>(hN f b:Z)),bp,()) else([],bq,())):=by
 classical
 unfold Dd;dsimp only;by_cases p:f.length=a
 ·rw[a1 (by grind)];refine ah (ij aa) (ah (ij aa) ?_);refine bP.1 ?_;refine bE (P:=λo=>(o=.inl (aB a (λb=>(hN f b:Z)),())/\ga f a)\/(o=.inr ([],bq,())/\¬ga f a)) ?_ ?_
  ·refine bS a (λc x=>x=((c:Z),aB a (λb=>if(b:Z)∈f.take c then(hN f b:Z) else 0),aB a (λb=>br ((b:Z)∈f.take c)),())/\(∀g∈f.take c,0<=g/\g<(a:Z))/\(f.take c).Nodup) ?_ ?_ ?_
   ·grind [jj]
   ·rintro c _ A ⟨rfl,m,n⟩;dsimp only;rw[aY (aH (show(c:Z)<ak f by grind)),eY (aa:c<f.length)];have q:f[c]'(by omega)∈f:=b6 _
    have u:f.take (c+1)=f.take c++[f[c]'(by omega)]:=by simp_all
    have j:∀g,g∈f.take (c+1)↔g∈f.take c\/g=f[c]'(by omega):=λg=>by rw[u,h8,gj]
    have t:(f.take (c+1)).Sublist f:=aki _ _;have s:∀e:X,f[c]'(by omega)=(e:Z)->(e:Z)∉f.take c->hN f e=c:=λe=>aa3 aa
    generalize r:f[c]'(by omega)=b at*
    simp only[aC];by_cases y:b<0
    ·rw[a1 (show(br (b<0)==bq)=bq by grind)];refine bu.2 (.inr ⟨bn,λh=>?_⟩);have:=h.2.1 b q;omega
    rw[aY (show(br (b<0)==bq)=bp by grind)];by_cases z:b>=(a:Z)
    ·rw[a1 (show(br (b>=(a:Z))==bq)=bq by grind)];refine bu.2 (.inr ⟨bn,λh=>?_⟩);have:=h.2.1 b q;omega
    rw[aY (show(br (b>=(a:Z))==bq)=bp by grind)];obtain⟨e,rfl⟩:=gg (aa:0<=b);rw[lE (by grind [cY]),lx];by_cases l:(e:Z)∈f.take c
    ·simp only[aC];rw[aY (aH l)];refine bu.2 (.inr ⟨bn,λh=>?_⟩);have:=amy t h.2.2;grind
    simp only[aC];rw[a1 (aF l)];simp only[aC];rw[lI (by grind [cY]),hC,lI (by grind [cY]),hC];refine bu.2 ⟨?_,?_,?_⟩
    ·rw[bk aa];have:aB a (eC (λb=>br ((b:Z)∈f.take c)) e bp)=aB a (λb=>br ((b:Z)∈f.take (c+1))):=by
      refine c9 λk v=>?_;by_cases i:k=e
      ·grind [gM,aH]
      rw[he _ _ i];refine cu.2 ⟨λd=>(j _).2 (.inl d),λd=>((j _).1 d).resolve_right λd=>i aa⟩
     rw[this];have:aB a (eC (λb=>if(b:Z)∈f.take c then(hN f b:Z) else 0) e (c:Z))=aB a (λb=>if(b:Z)∈f.take (c+1) then(hN f b:Z) else 0):=by
      refine c9 λk v=>?_;by_cases i:k=e
      ·subst i;rw[gM,au ((j _).2 (.inr bn)),s k bn l]
      rw[he _ _ i];have:(k:Z)∈f.take (c+1)↔(k:Z)∈f.take c:=⟨λd=>((j _).1 d).resolve_right λd=>i aa,λd=>(j _).2 (.inl d)⟩;simp_all
     grind
    ·intro g w;rcases(j g).1 w with d|d
     ·grind
     omega
    grind [List.nodup_append,ahk]
   rintro _ ⟨rfl,m,n⟩;dsimp only;rw[a1 (aF (show¬((a:Z)<ak f) by grind))];rw[ck aa] at m n|-;have h:ga f a:=⟨p,m,n⟩;refine bu.2 (.inl ⟨?_,h⟩);have:aB a (λb=>if(b:Z)∈f then(hN f b:Z) else 0)=aB a (λb=>(hN f b:Z)):=c9 λb r=>b9 (h.mem r);grind
  rintro o (⟨rfl,d⟩|⟨rfl,d⟩)
  ·simp_all [au,bu]
  simp_all [bu,aw]
 rw[aY (by grind),aw (λd=>p d.1)]
def EW (a b:X) (d c e f:ahc):Z:=open Classical in if gI a b d c e≠0 then gI a b d c e else if a≠b then 5 else if ga f a then 0 else 90
theorem QF (c:EW a b u f v t=0):gI a b u f v=0/\a=b/\ga t a:=by unfold EW at c;grind
def l1 (a:X) (E:bm cV) (b:ahc):ew:=jP (j6 (j5 a (jR E)) b)
theorem HH (b:X) (c:X->X->bA):∀a∈j5 b c,a.length<=b:=by intro a d;unfold j5 aB at d;grind [ahF,fI]
theorem zO (a:X) (b:X->X->bA):(j5 a b).length=a:=cY _ _
theorem Vw (c:X) (E:bm cV):j5 c (jR E)=jP (ih c (lH E)):=by rw[MQ];have:(λa b=>a !=b&&(lH E a b||lH E b a))=jR E:=(by grind [No]);grind
theorem Ps (d:a<=12) {E:bm cV} (b:ga f a):mE (j5 a (jR E)) f=0:=by unfold mE;have c:iC (j5 a (jR E))=0:=qR.2 ⟨by grind [zO],by grind [HC,Vw]⟩;rw[aw (ahe c),aw (ahe (by rw[zO];exact b.1)),zO,au b]
theorem R0 (d:a<=12) {E:bm cV} (b:ga f a):yW ((j5 a (jR E),()),f,())=Y ((l1 a E f,()),0,()):=by rw[RZ (λe c=>by have:=HH a _ e c;omega) f (λ_ _=>by grind [zO]) (by rw[b.1];omega),au (Ps d b)];rfl
def PI (c:a<=12) {E:bm cV} (d:ga f a):q2 ((j5 a (jR E),()),f,())=Y ((l1 a E f,()),0,()):=by rw[Jr (λe b=>by have:=HH a _ e b;omega) f,au (Ps c d)];rfl
def zP {E:bm cV} (b:ga f a):(l1 a E f).length=a:=by unfold l1;rw[Vl,xe,b.1]
theorem zQ (a:X) (E:bm cV) (b:ahc):fj (l1 a E b):=HC _
def VD (e:a<=12) {E:bm cV} (d:ga f a):∀b∈l1 a E f,b.length<4611686018427387904:=λb c=>by have:=Vm _ b c;rw[xe,d.1] at this;omega
def abo (c:mN a t f u) (i:jq a a t f u) (d:gI a a t f u=0) (s:ga v a):GQ (((a:Z),(a:Z),t,f,u,()),v,())=Y ((l1 a (gZ (cX t f u a)) v,()),()):=by have b:=(jM.1 d).1;have l:=(jM.1 d).2;have k:=p0 b a (bd _);have m:=q6 b;have w:=c.el;have r:=c.xC;have n:=p1 b i.hw;have o:=p1 b (Dv l);unfold GQ;refine ah (Jh c i d) ?_;have j:=xv k;have h:=xu m;have q:=JJ (rows:=a) (c3:=a) (E:=gZ (cX t f u a)) aa aa aa (λg e=>n g (hx.1 e).1);have p:=Ga j h (λg e=>o g (hx.1 e).1);have:=PH q p;rw[Hl j h] at this;refine ah this ?_;exact ah (PI (dh r ab) s) rfl
def RM (e:mN a t f u) (p:jq a a t f u) (h:gI a a t f u=0):yU (rp a a (gZ (cX t f u a)),())=Y ((j5 a (jR (gZ (cX t f u a))),()),0,()):=by have b:=(jM.1 h).1;have k:=(jM.1 h).2;have j:=p0 b a (bd _);have l:=q6 b;have r:=e.el;have s:=e.xC;have m:=p1 b p.hw;have n:=p1 b (Dv k);have i:=xv j;have g:=xu l;have q:=JJ (rows:=a) (c3:=a) (E:=gZ (cX t f u a)) aa aa aa (λd c=>m d (hx.1 c).1);have o:=Ga i g (λd c=>n d (hx.1 c).1);have:=RL q o;rw[Hl i g] at this;exact this
def Hf:fL:=(bq,((bq,([],())),((0:Z),())))
def T8:Hf=az (Y 0):=by rw[hB];rfl
def u5:a2 0=Y 0:=by decide
theorem NT {j:Type}:∀(i:bm (Z×j)) (c:Z) (d:j) (b:Z),gq (kI i c d) b=if b=c then Y d else gq i b
 |[],c,d,b=>by
  show(if c=b then Y d else bo)=_;by_cases e:b=c
  ·rw[au e,au e.symm]
  rw[aw e,aw (λf=>e f.symm)];rfl
 |(a,u)::r,c,d,b=>by
  unfold kI;by_cases g:c<a
  ·rw[au g];show(if c=b then Y d else gq ((a,u)::r) b)=_;grind
  rw[aw g];by_cases h:c=a
  ·rw[au h];show(if c=b then Y d else gq r b)=_;by_cases e:b=c
   ·rw[au e,au e.symm]
   rw[aw e,aw (λf=>e f.symm)];show _=(if a=b then Y u else gq r b);grind
  rw[aw h];show(if a=b then Y u else gq (kI r c d) b)=_;rw[NT r c d b];show _=if b=c then Y d else(if a=b then Y u else gq r b)
  grind
abbrev nZ:=bv (bm (Z×fL)×X)
variable{y:bm nZ}
def mx (a b:Z):Z:=if b>a then b else a
def l4 (a b:Z):Z:=if b<a then b else a
def ig (E:bm cV) (a:ahc) (b c:X):ag6:=a2 (mM E (mx (a.getD b 0) (a.getD c 0)) (l4 (a.getD b 0) (a.getD c 0)))
theorem Ur (E:bm cV) (a:ahc) (b c:X):ig E a b c=ig E a c b:=by grind [mx,l4,ig]
structure ln (n:X) (o:ahc) (D:bm cV) (M:bm nZ):Prop where
 len:M.length=n
 get:∀p,p<n->∃l c,M[p]?=Y (Y (l,c))/\∀q,q<n->p<=q->(gq l (q:Z)).getD Hf=az (ig D o p q)
def ln.nil:ln a f [] (aB a λ_=>Y ([],0)) where
 len:=cY _ _
 get:=λc b=>⟨[],0,ju b,λd _ _=>by
  show Hf=az (a2 0);rw[u5,T8]⟩
theorem Ew (c:ga f b) (d:a<b):f.getD a 0=(nK f a:Z)/\nK f a<b:=by have e:a<f.length:=(by rw[c.1];exact d);have:=c.2.1 f[a] (cO e);grind [jv,nK]
theorem aa4 (c:ga f b) {d:X} (i:d<b) (h:a<b) (n:a<=d) (e:j<b) (g:q<b) (o:j<=q):(l4 (hN f d:Z) (hN f a:Z)=(j:Z)/\mx (hN f d:Z) (hN f a:Z)=(q:Z))↔(d:Z)=mx (f.getD j 0) (f.getD q 0)/\(a:Z)=l4 (f.getD j 0) (f.getD q 0):=by
 obtain⟨k,p⟩:=Ew c e;obtain⟨ax,s⟩:=Ew c g;obtain⟨u,v⟩:=c.pos i;obtain⟨l,m⟩:=c.pos h;have r:=c.Px e;have t:=c.Px g;rw[k,ax];constructor
 ·grind [ao,mx,l4,hN]
 grind [nK,l4,mx,ao]
theorem ln.skip {c:bm cV} (d:ln a f c y) {b:cV} (l:(c++[b]).Pairwise hm) (p:b.1<b.2.1):ln a f (c++[b]) y where
 len:=d.len
 get:=λn i=>by obtain⟨m,e,g,h⟩:=d.get n i;refine⟨m,e,g,λo k j=>?_⟩;rw[h o k j];unfold ig;rw[Ri l,aw];grind [l4,mx]
theorem ln.add (z:ga f q) {g:bm cV} (h:ln q f g y) {i:X} (B:(g++[((b:Z),(a:Z),c,())]).Pairwise hm) (A:b<q) (u:a<q) (v:a<=b) (H:(j:Z)=l4 (hN f b:Z) (hN f a:Z)) (G:(i:Z)=mx (hN f b:Z) (hN f a:Z)) {n:bm (Z×fL)} {C D:X} (w:y[j]?=Y (Y (n,C))):ln q f (g++[((b:Z),(a:Z),c,())]) (y.set j (Y (kI n (i:Z) (az (a2 c)),D))) where
 len:=by rw[ajl,h.len]
 get:=λe k=>by
  have x:j<y.length:=(hJ.1 w).1;have E:∀d,d<q->e<=d->az (ig (g++[((b:Z),(a:Z),c,())]) f e d)=if j=e/\i=d then az (a2 c) else az (ig g f e d):=by intro d m l;have:=aa4 z A u v k m l;unfold ig;rw[Ri B];grind
  by_cases p:e=j
  ·subst p;refine⟨_,_,List.getElem?_set_self x,λd m l=>?_⟩;rw[NT,E d m l];by_cases r:i=d
   ·grind
   rw[aw aa,aw (λh=>r h.2)];obtain⟨F,o,s,t⟩:=h.get e k;grind
  obtain⟨F,o,s,t⟩:=h.get e k;grind
theorem abj (h:jq a a u t v) (g:gI a a u t v=0) (d:ga f a) (m:b<a) (n:j<a):zy (((a:Z),(a:Z),u,t,v,()),f,(b:Z),(j:Z),())=Y (az (ig (cX u t v a) f b j),()):=by obtain⟨p,q⟩:=Ew d m;obtain⟨ax,r⟩:=Ew d n;have o:=d.1;have i:=p1 (jM.1 g).1 h.hw;unfold zy;refine ah (hj aa) (ah (hj aa) ?_);obtain⟨c,k,l⟩:∃c:X,l4 (f.getD b 0) (f.getD j 0)=(c:Z)/\c<a:=(by grind [l4]);have e:=abk h g (mx (f.getD b 0) (f.getD j 0)) l;rw[<-k] at e;refine ah e ?_;dsimp only;refine ah (j9 (adN i _ _)) rfl
theorem RS (x:mN a u t f) (n:jq a a u t f) (z:gI a a u t f=0) (o:ga v a):∃c,ln a v (cX u t f a) c/\wZ (((a:Z),(a:Z),u,t,f,()),v,())=Y (Y ((a:Z),(l1 a (gZ (cX u t f a)) v,()),c,()),0,()):=by
 have Q:=x.xC;have h:=(jM.1 z).1;have ap:=p0 h a (bd _);have a0:=q6 h;have ce:=o.1;have a3:=p1 h n.hw;suffices D:ae (wZ (((a:Z),(a:Z),u,t,f,()),v,())) λe=>∃c,ln a v (cX u t f a) c/\e=(Y ((a:Z),(l1 a (gZ (cX u t f a)) v,()),c,()),0,()) by obtain⟨e,am,c,an,rfl⟩:=D;grind
 unfold wZ;refine bz n.check ?_;dsimp only;rw[a1 (by grind),a1 (by grind)];refine bz (aaS aa aa) ?_;rw[b9 o];dsimp only;rw[Bool.not_true,bO];refine bz (RQ x n z) (bz (RM x n z) (bz (R0 (cA Q ab) o) ?_));dsimp only;generalize av:l1 a (gZ (cX u t f a)) v=l;refine bz (ij aa) ?_;generalize O:(((a:Z),(a:Z),u,t,f,()):fJ)=J;refine bE (P:=λe=>e=(J,((a:Z),(l,()),aB a (λ_=>(Y ([],0):nZ)),()),())) ?_ ?_
 ·refine bS a (λk p=>p=((k:Z),J,((a:Z),(l,()),aB a (λj=>if j<k then(Y ([],0):nZ) else bo),()),())) ?_ ?_ ?_
  ·rw[jj];rfl
  ·rintro k _ M rfl;dsimp only;rw[aY (aH (show(k:Z)<ak (bJ a (bo:nZ)) by grind)),bk aa];refine bz (eT (by grind [cY])) ?_;rw[gW M,hC];refine bu.2 ?_;have:aB a (eC (λj=>if j<k then(Y ([],0):nZ) else bo) k (Y ([],0)))=aB a (λj=>if j<k+1 then(Y ([],0):nZ) else bo):=by
    refine c9 λj B=>?_;by_cases w:j=k
    ·simp_all [gM,au]
    rw[he _ _ w];grind
   grind
  rintro _ rfl;dsimp only;rw[a1 (aF (show¬((a:Z)<ak (bJ a (bo:nZ))) by grind))];have:aB a (λj=>if j<a then(Y ([],0):nZ) else bo)=aB a (λ_=>(Y ([],0):nZ)):=c9 λj B=>b9 B;grind [bu]
 rintro _ rfl;dsimp only;refine bE (P:=λe=>∃c,ln a v (cX u t f a) c/\e=(((a:Z),(l,()),c,()),())) ?_ (by grind [bu]);subst O;refine bS a (λb p=>∃c,ln a v (cX u t f b) c/\p=((b:Z),((a:Z),(a:Z),u,t,f,()),((a:Z),(l,()),c,()),())) ⟨_,ln.nil,bn⟩ ?_ ?_
 ·rintro b _ r ⟨c,m,rfl⟩;have s:=h.len;obtain⟨d,N⟩:=ahi (h.pos b aa);obtain⟨i,G⟩:=ahi (h.pos (b+1) aa);have bl:i<=t.length:=(by have:=h.sQ (b+1) aa;omega);have bx:d<=i:=(by have:=h.mono b r;omega);have B:=h.val;have a4:=n.hi;dsimp only;rw[aY (aH (aa:(b:Z)<(a:Z))),bk aa];refine bz (y:=(d:Z)) (by rw[hj aa,N]) ?_;have R:cX u t f (b+1)=cX u t f b++iE t f (b:Z) d (i-d):=by
   grind [cX]
  have T:(cX u t f (b+1)).Pairwise hm:=p0 h (b+1) aa;refine bE (P:=λe=>∃c,ln a v (cX u t f (b+1)) c/\e=(((a:Z),(a:Z),u,t,f,()),((a:Z),(l,()),c,()),())) ?_ (by grind [bu]);refine bS (i-d) (λg p=>∃c,ln a v (cX u t f b++iE t f (b:Z) d g) c/\p=(((d+g:X):Z),((a:Z),(a:Z),u,t,f,()),((a:Z),(l,()),c,()),())) ⟨c,by grind [iE],bn⟩ ?_ ?_
  ·rintro g _ ci ⟨c,m,rfl⟩;dsimp only;refine bz (y:=(i:Z)) (by rw[hj aa,G]) ?_;rw[aY (aH (aa:((d+g:X):Z)<(i:Z)))];have S:=h.rng b (d+g) r aa aa;obtain⟨e,A⟩:=ahi S.1;have I:(cX u t f b++iE t f (b:Z) d g++[((e:Z),(b:Z),f.getD (d+g) 0,())]).Pairwise hm:=by
    refine amu ?_ T;rw[R,jb];refine am2 (am3 _) ?_;have:iE t f (b:Z) d g++[((e:Z),(b:Z),f.getD (d+g) 0,())]=iE t f (b:Z) d (g+1):=(by rw[iE,A]);rw[this,Hk,Hk,<-Ds (i-d) (g+1) _ aa];grind
   have L:cX u t f b++iE t f (b:Z) d (g+1)=cX u t f b++iE t f (b:Z) d g++[((e:Z),(b:Z),f.getD (d+g) 0,())]:=(by rw[jb,iE,A]);rw[L];refine bE (P:=λad=>∃c,ln a v (cX u t f b++iE t f (b:Z) d g++[((e:Z),(b:Z),f.getD (d+g) 0,())]) c/\ad=(((a:Z),(a:Z),u,t,f,()),((a:Z),(l,()),c,()),())) ?_ ?_
   ·refine bz (y:=(e:Z)) (by rw[hj aa,A]) ?_;rw[cQ];refine ahH (λw=>?_) (λw=>?_)
    ·have H:e<a:=aa;refine bz (by rw[eY (by grind [cY]),lx]) (bz (by rw[eY (by grind [cY]),lx]) ?_);obtain⟨q,E,K⟩:∃q:X,(q:Z)=l4 (hN v e:Z) (hN v b:Z)/\q<a:=by
      have:=(o.pos H).1;have:=(o.pos r).1;unfold l4;split
      ·grind
      grind
     obtain⟨C,F⟩:∃C:X,(C:Z)=mx (hN v e:Z) (hN v b:Z):=(by unfold mx;grind);change ae ((bj c.length (l4 (hN v e:Z) (hN v b:Z))).bind _) _;rw[<-E];refine bz (eT (by rw[m.len];omega)) ?_;refine bz (hj aa) ?_;refine bz (qc (n.hw _ (by grind))) ?_;dsimp only;obtain⟨V,U,s,_⟩:=m.get q K;refine bz (gn s) ?_;change ae ((xx (Y (V,U)) (mx (hN v e:Z) (hN v b:Z)) _).bind _) _;rw[<-F];refine bz bn ?_;rw[gn s];exact bu.2 ⟨_,m.add o I H r aa E F s,bn⟩
    exact bu.2 ⟨c,m.skip I (by grind),bn⟩
   rintro _ ⟨c,D,rfl⟩;dsimp only;rw[bk aa];grind [bu]
  rintro _ ⟨c,m,rfl⟩;dsimp only;refine bz (y:=(i:Z)) (by rw[hj aa,G]) ?_;rw[a1 (aF (aa:¬((d+(i-d):X):Z)<(i:Z)))];grind [bu]
 rintro _ ⟨c,m,rfl⟩;dsimp only;rw[a1 (aF (aa:¬((a:Z)<(a:Z))))];grind [bu]
theorem acp {E:bm cV} (g:ln a f E y) (p:b<a) (q:j<a):wY (Y ((a:Z),(s,()),y,()),(b:Z),(j:Z),())=Y (az (ig E f b j),()):=by
 unfold wY;dsimp only;rw[bN];have r:∀c d:X,c<a->d<a->c<=d->((al y (c:Z)).bind λn=>Y (((mD (α:=fL) n (d:Z)).getD (bq,((bq,([],())),((0:Z),())))),()))=Y (az (ig E f c d),()):=(by intro c d k m l;obtain⟨t,o,h,i⟩:=g.get c k;refine ah (gQ h) ?_;have:=i d m l;rw[<-this];rfl);by_cases e:(j:Z)<(b:Z)
 ·rw[au e,aw aa,Ur];grind
 grind
theorem Ee (a:a8 c≠2047):∃d,a2 c=Y d:=by
 have ao:=w5 c;have g:=sG c;unfold a2;rw[aw a];unfold hE;generalize f:(if c<9223372036854775808 then if a8 c=0 then fb c else fb c+4503599627370496 else-(if a8 c=0 then fb c else fb c+4503599627370496))=b;have e:aL b.natAbs<=53:=gp.2 (by
  omega)
 split
 ·grind
 rw[aw aa];grind
def Og:cT (Y 0) (Y c)=Y 0:=by show hE (cE 0*cE c) _=Y 0;rw[Af,oI];rfl
def adm (a:X->X->Z) (c d b:X):ag6:=c4 (cT (a2 (a b c)) (a2 (a b d)))
def JD (c:X->X->ag6) (d:X->X->Z) (a b:X):ag6:=ac3 (c b a::(bH a).map (adm d b a))
def Tx (b:X->X->ag6) (e:X->X->bA) (d:X->X->Z) (a c:X):Z:=
 if c=a then EM (JD b d a a) 0 else if e a c=bp then fV (JD b d a c) (a2 (EM (JD b d a a) 0)) 0 else 0
def Ij (a:X->X->ag6) (b:X->X->bA):X->X->X->Z
 |0=>λ_ _=>0
 |j+1=>λd c=>if d=j then Tx a b (Ij a b j) j c else Ij a b j d c
def uV (b:X->X->ag6) (d:X->X->bA) (a c:X):Z:=Ij b d (a+1) a c
theorem V7 (a:eJ c):GO (c,())=Y (br (jy c=0),()):=by unfold GO;have e:jy c=0↔c=0\/c=9223372036854775808:=(by unfold jy a8 fb;obtain⟨b,d⟩:=a;omega);grind
def PA (a:eJ c) (b:eJ k):C5 (c,k,())=Y (az (cT (a2 c) (a2 k)),()):=by unfold C5;refine ah (j9 a) (ah (j9 b) ?_);exact ah (kM (gr _) (gr _)) rfl
def Jg {a:ag6} (b:cL w) (c:cL a):zx (az w,az a,())=Y (fV w a 0,()):=by unfold zx;exact ah (abZ b c) rfl
theorem Ed {k:X} (b:c.natAbs=2*a+1):cE (c*2^k)=c/\eQ (c*2^k)=(k:Z)-65536:=by have d:(c*2^k).natAbs=(2*a+1)*2^k:=(by rw[iZ,b]);have e:=x0 d;unfold cE eQ;grind [ak9,Int.pow_pos]
def Pz (b:c≠0) (a:X):c*2^a≠0:=akm b (by have:(0:Z)<2^a:=mg ab;omega)
theorem N3 (e:c.natAbs=2*j+1) (o:k+a+65536=(b:Z)) (m:-65536<=k) (n:k+a+aL c.natAbs<=65536):hE (c*2^a) k=Y (c*2^b):=by have l:c≠0:=aa;have f:(c*2^a).natAbs=(2*j+1)*2^a:=(by rw[iZ,e]);have g:=x0 f;have h:aL (c*2^a).natAbs=aL c.natAbs+a:=(by grind [iZ,oY]);unfold hE;rw[aw (Pz l a),g,h,aw aa];obtain⟨d,i⟩:=gg (aa:0<=k+65536);rw[i];show Y (rD (c*2^a) (d:Z))=_;rw[pi,jV,<-lP,(aa:a+d=b)]
def Hr {m:Z} {a t k:X} (d:c=m*2^t) (b:m.natAbs=2*a+1) (f:(t:Z)+65536=(k:Z)) (e:t+aL m.natAbs<=65536):jx c=Y (m*2^k):=by unfold jx;rw[d];exact N3 b aa ab aa
def Dp {a:X} (e:c.natAbs=2*a+1) (f:0<c) (d:Z):iu (Y (c*2^b)) d=k6 bq c.natAbs ((b:Z)-65536) bq d:=by obtain⟨g,h⟩:=Ed (k:=b) e;show m5 (c*2^b) d=_;unfold m5;rw[aw (Pz aa b),g,h,aF];have:(0:Z)<c*2^b:=rT f (mg ab);omega
theorem UP {a:X} (d:c.natAbs=2*a+1) (e:0<c):EM (Y (c*2^b)) 0=P4 (P3 c.natAbs ((b:Z)-65536)) c.natAbs ((b:Z)-65536) 0:=by obtain⟨f,g⟩:=Ed (k:=b) d;have:(0:Z)<c*2^b:=rT e (mg ab);show(if c*2^b<0 then(9221120237041090560:Z) else if c*2^b=0 then 0 else Jt (c*2^b) 0)=_;rw[aw aa,aw aa];grind [Jt]
theorem UO {a b:X} (f:c.natAbs=2*a+1) (g:0<c) (d:z.natAbs=2*b+1) (e:0<z):fV (Y (c*2^j)) (Y (z*2^q)) 0=rz (m4 c.natAbs z.natAbs) c.natAbs z.natAbs bq ((j:Z)-65536-((q:Z)-65536)) 0:=by obtain⟨h,i⟩:=Ed (k:=j) f;obtain⟨l,m⟩:=Ed (k:=q) d;have n:(0:Z)<c*2^j:=rT g (mg ab);have o:(0:Z)<z*2^q:=rT e (mg ab);show(if z*2^q=0 then(9221120237041090560:Z) else if c*2^j=0 then 0 else vc (c*2^j) (z*2^q) 0)=_;rw[aw aa,aw aa];grind [aF,vc]
def Do {a t:X} (d:k.natAbs=2*a+1) (g:(if c<9223372036854775808 then if a8 c=0 then fb c else fb c+4503599627370496 else-(if a8 c=0 then fb c else fb c+4503599627370496))=k*2^t) (f:a8 c≠2047) (h:(if a8 c=0 then-1074 else a8 c-1075)+(t:Z)+65536=(b:Z)) (e:(if a8 c=0 then-1074 else a8 c-1075)+(t:Z)+aL k.natAbs<=65536):a2 c=Y (k*2^b):=by unfold a2;rw[aw f,g];refine N3 d h ?_ e;have:=w5 c;omega
def f4:iu (jx 4) 0=4616189618054758400:=by rw[Hr (m:=1) (a:=0) (t:=2) (k:=65538) ab ab ab ab,Dp (a:=0) ab ab];decide
def f2:iu (jx 2) 0=4611686018427387904:=by rw[Hr (m:=1) (a:=0) (t:=1) (k:=65537) ab ab ab ab,Dp (a:=0) ab ab];decide
def f5:iu (jx 5) 0=4617315517961601024:=by rw[Hr (m:=5) (a:=2) (t:=0) (k:=65536) ab ab ab ab,Dp (a:=2) ab ab];decide
def v4:a2 4616189618054758400=Y (1*2^65538):=Do (a:=0) (t:=52) ab ab ab ab ab
def fv:a2 4611686018427387904=Y (1*2^65537):=Do (a:=0) (t:=52) ab ab ab ab ab
def Ka:a2 4617315517961601024=Y (5*2^65536):=Do (a:=2) (t:=50) ab ab ab ab ab
def v1:a2 4607182418800017408=Y (1*2^65536):=Do (a:=0) (t:=52) ab ab ab ab ab
def aE:EM (Y (1*2^65538)) 0=4611686018427387904:=by rw[UP (a:=0) ab ab];decide+kernel
def ax:fV (Y (1*2^65537)) (Y (1*2^65537)) 0=4607182418800017408:=by rw[UO (a:=0) (b:=0) ab ab ab ab];decide
theorem UM:ga [0,1] 2:=⟨bn,λb a=>by
 grind,ab⟩
def Hq:ew:=[[1],[0]]
theorem RT (j:f.length<=9223372036854775807) (r:a<=12):ae (CL (f,(a:Z),())) λc=>c.1.Perm ((bH a).map (λe:X=>(e:Z))):=by
 unfold CL;dsimp only;refine bE (P:=λc=>c.1.Perm ((bH a).map (λe:X=>(e:Z)))) ?_ (by grind [bu]);refine bS a (λd p=>∃b,p=(b,(d:Z),())/\b.Perm ((bH d).map (λe:X=>(e:Z)))) ⟨[],bn,aju _⟩ ?_ ?_
 ·rintro d _ q ⟨b,rfl,l⟩;have k:b.length=d:=(by have:=l.length_eq;grind);dsimp only;rw[aY (aH (aa:(d:Z)<(a:Z))),bk aa];refine bE (Ke f j _) ?_;rintro⟨i,_⟩ o;dsimp only at o|-;rw[vl ab ab,bN];refine bz (Aa _ (n:=d+1) aa aa) ?_;have s:=z9 (ay (i/2^(1:Z).toNat)) (n:=d+1) aa;dsimp only;generalize pb (ay (i/2^(1:Z).toNat)) (d+1)=c at*;refine bz (EV aa) ?_;dsimp only;rw[eB (by grind),bN,eB (by grind),bN];have m:((gy (c:Z)).bind λg=>(Y b.length).bind λh=>(hb g h b.length).map λ_=>(g,h))=Y (c,b.length):=by
   have:gy (c:Z)=Y c:=(by simp_all [au,fA,gy]);rw[this];show(hb c b.length b.length).map _=_;unfold hb;grind
  refine bz m ?_;dsimp only;rw[eB (by grind),bN];refine bu.2 ⟨_,bn,?_⟩;rw[ahG,akg,cB];have t:b.take c++b.drop c=b:=aiK c b;grind
 rintro _ ⟨b,rfl,k⟩;simp_all [bu,a1,aF]
theorem Ec (a:X):gy (a:Z)=Y a:=by simp_all [au,fA,gy]
def adw (e:a*2^j=b*2^q) (g:0<a) (f:0<b):cN a+j=cN b+q/\aL a+j=aL b+q:=by have c:=b3 cN e;have d:=b3 aL e;rw[E8 aa,E8 f] at c;rw[oY aa,oY f] at d;exact⟨c,d⟩
theorem Of (a:k*c=z*2^65536) (q:fO z):cT (Y k) (Y c)=Y z:=by
 show hE (cE k*cE c) (eI k+eI c)=Y z;have f:∀g:X,(2:Z)^g≠0:=λg=>(by have:(0:Z)<2^g:=mg ab;omega);by_cases b:k=0
 ·rw[b,oI] at a;rw[b,Af,oI,(aj9.1 a.symm).resolve_right (f _)];rfl
 by_cases d:c=0
 ·rw[d,aka] at a;rw[d,Af,aka,(aj9.1 a.symm).resolve_right (f _)];rfl
 have t:=oq k;have u:=oq c;have aP:=jA b;have s:=jA d;have w:=Ag.1 ⟨aa,Ou b⟩;have x:=Ag.1 ⟨aa,Ou d⟩;have o:cE k*cE c≠0:=akm aP s;have j:cN (cE k*cE c).natAbs=0:=(by refine(Ag.2 ?_).2;rw[vL,Nat.mul_mod,w,x]);have ao:cE k*cE c*2^(cN k.natAbs+cN c.natAbs)=z*2^65536:=by
  rw[<-a,lP]
  conv=>rhs;rw[<-t,<-u]
  rw[jV,jV,Int.mul_left_comm (cE c)]
 have m:eI k=(cN k.natAbs:Z)-65536:=(by rw[eI,aw b];rfl);have n:eI c=(cN c.natAbs:Z)-65536:=(by rw[eI,aw d];rfl);rw[m,n];generalize cN k.natAbs=h at*;generalize cN c.natAbs=i at*;generalize cE k*cE c=B at*;have e:=b3 Int.natAbs ao;rw[iZ,iZ] at e;have r:0<z.natAbs:=aa5 e aa;obtain⟨l,y⟩:=adw e aa r;rw[j] at l;have A:aL z.natAbs<=131072:=q;unfold hE;rw[aw o,j,aw aa];obtain⟨v,p⟩:=gg (aa:0<=(h:Z)-65536+((i:Z)-65536)+65536);rw[p,pi];congr 1;have:h+i=v+65536:=aa;rw[this,lP,<-jV] at ao;exact alj (f _)|>.1 ao
def gx (a:Z):Z:=if a<9223372036854775808 then if a8 a=0 then fb a else fb a+4503599627370496 else-(if a8 a=0 then fb a else fb a+4503599627370496)
def h3 (a:Z):Z:=if a8 a=0 then-1074 else a8 a-1075
def Dn (a:a8 c≠2047):-1074<=h3 c/\h3 c<=971:=by have:=w5 c;unfold h3;split<;>omega
def Iu (a:Z):aL (gx a).natAbs<=53:=gp.2 (by
 have b:=sG a;have:(2:X)^53=9007199254740992:=ab;rw[this];unfold gx;split<;>split<;>omega)
def l5 (b:a8 c≠2047):a2 c=Y (gx c*2^(h3 c+65536).toNat):=by
 have h:=Dn b;have g:=Iu c;unfold a2;rw[aw b];change hE (gx c) (h3 c)=_;generalize gx c=f at*;generalize h3 c=d at*;unfold hE;by_cases a:f=0
 ·rw[au a,a,oI]
 rw[aw a,aw aa];obtain⟨i,e⟩:=gg (aa:0<=d+65536);rw[e,pi,fA]
def Po {b:bA} (n:a<=9007199254740992) (o:-1074<=c) (m:4503599627370496<=a\/c=-1074) (d:a8 (kl b a c 0)≠2047):gx (kl b a c 0)*2^(h3 (kl b a c 0)+65536).toNat=(if b then-(a:Z) else(a:Z))*2^(c+65536).toNat:=by
 have l:a8 (qe b 0)=2047:=(by cases b<;>decide);have j:∀(f k i:Z),a8 f≠2047->gx f=k->h3 f=i->k*2^(i+65536).toNat=(if b then-(a:Z) else(a:Z))*2^(c+65536).toNat->gx f*2^(h3 f+65536).toNat=(if b then-(a:Z) else(a:Z))*2^(c+65536).toNat:=(by intro f k i _ h g e;rw[h,g];exact e);unfold kl at d|-;by_cases h:a<4503599627370496
 ·rw[au h] at d|-;obtain rfl:c=-1074:=aa;refine j _ (if b then-(a:Z) else(a:Z)) (-1074) d ?_ ?_ bn
  ·unfold gx a8 fb i6;cases b<;>simp<;>omega
  unfold h3 a8 i6;cases b<;>simp<;>omega
 rw[aw h] at d|-;by_cases g:a=9007199254740992
 ·rw[au g] at d|-;by_cases e:c+1+1075>=2047
  ·rw[au e] at d;exact absurd l d
  rw[aw e] at d|-;refine j _ (if b then-(4503599627370496:Z) else 4503599627370496) (c+1) d ?_ ?_ ?_
  ·unfold gx a8 fb i6;cases b<;>simp<;>omega
  ·unfold h3 a8 i6;cases b<;>simp<;>omega
  have ao:(c+1+65536).toNat=(c+65536).toNat+1:=aa;rw[ao,Int.pow_succ,g];generalize(2:Z)^(c+65536).toNat=p;cases b<;>simp<;>omega
 rw[aw g] at d|-;by_cases e:c+1075>=2047
 ·rw[au e] at d;exact absurd l d
 rw[aw e] at d|-;refine j _ (if b then-(a:Z) else(a:Z)) c d ?_ ?_ bn
 ·unfold gx a8 fb i6;cases b<;>simp<;>omega
 unfold h3 a8 i6;cases b<;>simp<;>omega
def xM (a b:X):(2:Z)^(a+b)=2^a*2^b:=lP 2 a b
def XV (b:-65536<=eQ c):c=cE c*2^(eQ c+65536).toNat:=by have a:=oq c;have:(eQ c+65536).toNat=cN c.natAbs:=(by unfold eQ;omega);rw[this,a]
def UH (a:Z):-65536<=eQ a:=by unfold eQ;omega
def XT (a:Z):cE a=(if br (a<0)=bp then-1 else 1)*((cE a).natAbs:Z):=by
 have:=u4 (v:=a);by_cases b:a<0
 ·simp[b];omega
 simp[b];omega
def gC (a:X) (b:Z):Prop:=∃c,b=c*2^a
theorem gC.zero (a:X):gC a 0:=⟨0,by rw[oI]⟩
theorem gC.add (d:gC a c) (b:gC a k):gC a (c+k):=by obtain⟨e,rfl⟩:=d;obtain⟨f,rfl⟩:=b;exact⟨e+f,by rw[Int.add_mul]⟩
def gC.neg (b:gC a c):gC a (-c):=by obtain⟨d,rfl⟩:=b;exact⟨-d,by rw[Int.neg_mul]⟩
theorem gC.mono {e:X} (d:gC e c) (b:a<=e):gC a c:=by obtain⟨g,rfl⟩:=d;obtain⟨f,rfl⟩:=Nat.exists_eq_add_of_le b;exact⟨g*2^f,by rw[ai6,xM,jV]⟩
def gC.shl (a:X) (b:Z):gC a (b*2^a):=⟨b,bn⟩
def gC.ge (f:gC a c) (e:c≠0):2^a<=c.natAbs:=by
 obtain⟨b,rfl⟩:=f;rw[iZ];have:0<b.natAbs:=by
  rcases n0 b.natAbs with d|d
  ·have:b=0:=aa;rw[this,oI] at e;exact absurd rfl e
  exact d
 exact amz _ this
def gC.Q7 (d:c≠0):gC a c↔a<=cN c.natAbs:=by
 rw[sR aa];constructor
 ·rintro⟨e,rfl⟩;rw[iZ,amA]
 intro b;exact⟨c/2^a,(zD b).symm⟩
def gC.ex (d:c≠0) (b:gC a c):(a:Z)-65536<=eQ c:=by have:=(gC.Q7 d).1 b;unfold eQ;omega
def Pn {neg:bA} (b:Z) (d:a<=9007199254740992) (e:-1074<=c) (f:c<=900):kl neg a c b=kl neg a c 0/\a8 (kl neg a c 0)≠2047:=by
 unfold kl;rw[aw (aa:¬c+1+1075>=2047),aw (aa:¬c+1075>=2047),aw (aa:¬c+1+1075>=2047),aw (aa:¬c+1075>=2047)];refine⟨bn,?_⟩;split
 ·unfold a8 i6;cases neg<;>simp<;>omega
 split
 ·unfold a8 i6;cases neg<;>simp<;>omega
 unfold a8 i6;cases neg<;>simp<;>omega
theorem ab5 {v:Z} (d:Z) (k:v≠0) (F:gC (65536-1074) v) (Q:aL v.natAbs<=65536+900):a8 (m5 v d)≠2047/\∃o,a2 (m5 v d)=Y o/\(∀l,gC l v->gC l o)/\o.natAbs<=2*v.natAbs/\v.natAbs<=2*o.natAbs:=by
 have ad:=F.ex k;have q:0<(cE v).natAbs:=(by have:=jA k;omega);have S:=IH k;have V:=rI (n:=v.natAbs) aa;have p:v=(if br (v<0)=bp then-1 else 1)*((cE v).natAbs:Z)*2^(eQ v+65536).toNat:=(by rw[<-XT];exact XV (UH v));have C:(eQ v+65536).toNat=cN v.natAbs:=(by unfold eQ;omega);have O:eQ v=(cN v.natAbs:Z)-65536:=rfl;unfold m5;rw[aw k];generalize R:(cE v).natAbs=a at*;generalize T:br (v<0)=c at*;have f:=Fb (neg:=c) (s3:=bq) (oi:=d) (e:=eQ v) q;have M:c7 a (eQ v)=eQ v+aL a-53\/c7 a (eQ v)=-1074:=(by unfold c7;omega);have m:eQ v+aL a-53<=c7 a (eQ v)/\-1074<=c7 a (eQ v):=(by unfold c7;omega);have y:c7 a (eQ v)<=900:=aa;have H:=tV q;unfold k6;generalize c7 a (eQ v)=g at*;by_cases t:g<=eQ v
 ·rw[au t] at f|-;obtain⟨j,w⟩:=gg (aa:0<=eQ v-g);rw[w,fA] at f|-;obtain⟨ax,i⟩:=Pn (neg:=c) d f m.2 y;have r:4503599627370496<=a*2^j\/g=-1074:=by
   rcases M with s|s
   ·left;have ao:aL (a*2^j)=53:=(by rw[oY q];omega);have:=qQ.1 (aa:52<aL (a*2^j));exact this
   exact .inr s
  rw[ax];refine⟨i,v,?_,λl E=>E,aa,aa⟩;rw[l5 i,Po f m.2 r i];congr 1;have N:(eQ v+65536).toNat=j+(g+65536).toNat:=aa;rw[N,xM] at p;refine Eq.trans ?_ p.symm
  push_cast
  generalize(2:Z)^j=am;generalize(2:Z)^(g+65536).toNat=an;cases c<;>simp<;>grind
 rw[aw t] at f|-;obtain⟨b,L⟩:=gg (aa:0<=g-eQ v);rw[L,fA] at f|-;obtain⟨ax,i⟩:=Pn (neg:=c) d f m.2 y;have U:b+53=aL a:=aa;have K:hV c a b bq d<=a/2^b+1:=by
  unfold hV;split
  ·omega
  split<;>omega
 have G:2^52*2^b<=a:=(by rw[<-jf];exact dh (rx _ _ aa) H.1);have x:=jG b;have J:4503599627370496<=a/2^b:=(ak3 x).2 G;have u:a/2^b<=hV c a b bq d:=by
  unfold hV;split
  ·exact bd _
  split<;>omega
 have r:=dh J u;have w:=Nat.div_mul_le_self a (2^b);rw[ax];generalize hV c a b bq d=h at*;refine⟨i,(if c=bp then-(h:Z) else(h:Z))*2^(g+65536).toNat,?_,?_,?_⟩
 ·rw[l5 i,Po f m.2 (.inl r) i]
 ·intro l I;have:=(gC.Q7 k).1 I;exact(gC.shl _ _).mono aa
 have ao:(g+65536).toNat=b+cN v.natAbs:=aa;have z:v.natAbs=a*2^cN v.natAbs:=(by have:=b3 Int.natAbs p;have B:(if c=bp then(-1:Z) else 1).natAbs=1:=(by cases c<;>rfl);rw[iZ,vL,akf,C,B,mR] at this;exact this);have A:(if c=bp then-(h:Z) else(h:Z)).natAbs=h:=(by cases c<;>simp);rw[iZ,ao,jf,<-oO,A];have D:h*2^b<=(a/2^b+1)*2^b:=iz _ K;rw[nh,mR] at D;have f2:2^b<=2^52*2^b:=amz _ ab;have P:a/2^b*2^b<=h*2^b:=iz _ u;have f4:=r0 a (2^b);have f5:=aiI a x;rw[qF] at f4;generalize cN v.natAbs=s at*;rw[z];constructor
 ·rw[<-oO];exact iz _ aa
 rw[<-oO];exact iz _ aa
def lp (c d:X) (b:Z):Prop:=eJ b/\a8 b≠2047/\∀a,a2 b=Y a->gC (65536-56) a/\a.natAbs<=2^(65536+c)/\(a≠0->2^(65536-d)<=a.natAbs)
theorem lp.mono (d:lp a j c) (h:a<=b) (i:j<=q):lp b q c:=
 ⟨d.1,d.2.1,λf e=>⟨(d.2.2 f e).1,dh (d.2.2 f e).2.1 (rx _ _ aa),λg=>dh (rx _ _ aa) ((d.2.2 f e).2.2 g)⟩⟩
theorem lp.zero (b d:X):lp b d 0:=⟨⟨ab,ab⟩,ab,λe a=>by
 rw[u5] at a;cases a;exact⟨gC.zero _,c8 _,λc=>absurd rfl c⟩⟩
def Pf {Xv M E:X} (e:E<2048) (f:M/2^52=2048):((Xv&&&M)|||(E<<<52))/2^52 %2048=E/\((Xv&&&M)|||(E<<<52)) %2^52=(Xv %2^52)&&&(M %2^52):=by
 constructor
 ·rw[<-akS,Nat.shiftRight_or_distrib,Nat.shiftRight_and_distrib,akS M,f,Nat.shiftLeft_shiftRight];have c:=amB (a:=(Xv>>>52)&&&2048) (b:=E) (n:=11);have d:=alk (a:=Xv>>>52) (b:=2048) (n:=11);rw[(ab:(2048:X) %2^11=0),amC] at d;rw[d,Nat.zero_or,(ab:(2:X)^11=2048),Nat.mod_eq_of_lt e] at c;exact c
 rw[amB,alk,aj0,amA,Nat.or_zero]
def K2 (b:X) (c:a<18446744073709551616):b&&&a<18446744073709551616:=amD amE c
def Ph {Xv M E:X} (e:Xv<18446744073709551616) (c:M<18446744073709551616) (g:E<2048):fN bC (ey bC (Xv:Z) (M:Z)) ((E<<<52:X):Z)=(((Xv&&&M)|||(E<<<52):X):Z):=by have a:=K2 Xv c;have b:E<<<52<18446744073709551616:=(by rw[aj0];omega);have d:ey bC (Xv:Z) (M:Z)=((Xv&&&M:X):Z):=(by unfold ey;rw[show bC.bits=64 from rfl,alm,tX e,tX c,tq aa aa]);have f:(Xv&&&M)|||(E<<<52)<18446744073709551616:=ak1 (n:=64) a b;rw[d];unfold fN;rw[show bC.bits=64 from rfl,BitVec.toNat_or,tX a,tX b,tq aa aa]
def XY {E:X} (e:a8 c=(E:Z)) (f:0<E) (g:E<2047) (h:a+1075=E+65536):∃b:Z,a2 c=Y (b*2^a)/\b.natAbs=4503599627370496+(fb c).toNat/\(fb c).toNat<4503599627370496:=by
 have i:=sG c;refine⟨gx c,?_,?_,aa⟩
 ·rw[l5 aa];have:(h3 c+65536).toNat=a:=(by unfold h3;rw[aw aa];omega);rw[this]
 unfold gx;have d:¬a8 c=0:=aa;rw[aw d];split<;>omega
def lp.uI {E l:X} (k:eJ c) (h:a8 c=(E:Z)) (p:1075-56<=E+51) (q:E<1100) (f:1075-56<=E\/(fb c).toNat %2251799813685248=0) (t:E+53<=1075+a) (u:1075<=E+52+l) (v:l<=65536):lp a l c:=by
 obtain⟨b,j⟩:∃b,b+1075=E+65536:=⟨E+64461,aa⟩;obtain⟨d,i,r,s⟩:=XY h aa aa j;have n:53+b<=65536+a:=aa;have o:65536-l<=52+b:=aa;refine⟨k,aa,λw g=>?_⟩;rw[i] at g;cases g;refine⟨?_,?_,λ_=>?_⟩
 ·rcases f with f|f
  ·exact(gC.shl _ _).mono aa
  have m:d.natAbs %2^51=0:=(by rw[(ab:(2:X)^51=2251799813685248)];omega);have ao:=(zD m).symm;refine gC.mono (e:=51+b) ⟨d/2^51,?_⟩ aa;rw[xM 51 b,<-jV,<-ao]
 ·rw[iZ];have:d.natAbs<=2^53:=(by rw[(ab:(2:X)^53=9007199254740992)];omega);refine dh (iz _ this) ?_;rw[<-jf];exact rx _ _ n
 rw[iZ];have:2^52<=d.natAbs:=(by rw[(ab:(2:X)^52=4503599627370496)];omega);refine dh ?_ (iz _ this);rw[<-jf];exact rx _ _ o
def My (a:X):a8 (a:Z)=((a/2^52 %2048:X):Z):=by unfold a8;rw[(ab:(2:X)^52=4503599627370496)];omega
def UT (a:X):(fb (a:Z)).toNat=a %2^52:=by unfold fb;rw[(ab:(2:X)^52=4503599627370496)];omega
def SA {Xv M:X} (b:Xv<18446744073709551616) (a:M<18446744073709551616):ey bC (Xv:Z) (M:Z)=((Xv&&&M:X):Z):=by have c:=K2 Xv a;unfold ey;rw[show bC.bits=64 from rfl,alm,tX b,tX a,tq aa aa]
def Qu {E:X} (b:E<2048):((E:Z)*(2:Z)^(52:Z).toNat) %(18446744073709551616:Z)=((E<<<52:X):Z):=by rw[aj0,show((52:Z).toNat)=52 from rfl];have ao:(2:Z)^52=4503599627370496:=ab;have a:(2:X)^52=4503599627370496:=ab;rw[ao,a];omega
def acK (d e:X) (u:5<=d) (r:-9<=c) (s:c<=9):lp d e (iu (jx c) 0):=by
 have w:aL c.natAbs<=4:=gp.2 aa;obtain⟨a,t⟩:∃a:X,a=65536:=⟨_,bn⟩;have m:jx c=Y (c*2^a):=by
  unfold jx;rw[D6 (v:=c*2^a) ab (by rw[(aa:((0:Z)+65536).toNat=a)])];unfold mW;rw[au];unfold fO;rw[iZ];rcases n0 c.natAbs with b|b
  ·rw[b,Nat.zero_mul];decide
  rw[oY b];omega
 have g:=AH (jx c) 0;rw[m] at g|-;by_cases j:c=0
 ·rw[j,oI];exact lp.zero d e
 have x:(0:Z)<2^a:=mg ab;have n:c*2^a≠0:=akm j aa;obtain⟨ax,y,p,q,k,_⟩:=ab5 (v:=c*2^a) 0 n ((gC.shl a c).mono aa) (by
  rw[iZ,oY aa];omega)
 refine⟨g,ax,λl o=>?_⟩;have i:a2 (m5 (c*2^a) 0)=Y l:=o;rw[p] at i;cases i;have h:=q a (gC.shl a c);refine⟨h.mono aa,?_,λb=>dh (rx (65536-e) a aa) (h.ge b)⟩;rw[iZ] at k;have:2*c.natAbs<=2^5:=aa;have f:=iz (2^a) this;rw[<-jf] at f;refine dh k ?_;rw[<-oO];exact dh f (rx (5+a) (65536+d) aa)
def acJ {z:Z} (a:-9<=z) (b:z<=9):lp 5 4 (iu (jx z) 0):=acK 5 4 ab a b
def XO (o:eJ k) (A:pb c 4<3):ae (wO (k,c,())) λl=>lp 41 41 l.1/\(pb c 4<2->lp 5 4 l.1):=by
 obtain⟨a,rfl⟩:=ahi o.1;have i:a<18446744073709551616:=(by have:=o.2;omega);unfold wO;dsimp only;refine bz (Aa c (n:=4) ab ab) ?_;dsimp only;rw[gH,gH,gH,cQ];refine ahH (λ_=>?_) λu=>?_
 ·rw[vl ab ab,aC];have j:∃b:X,b<8/\ey bC ((a:Z)/2^(52:Z).toNat) 7=(b:Z):=by
   refine⟨a/2^52&&&7,?_,?_⟩
   ·have:a/2^52&&&7<=7:=amE;omega
   rw[<-SA (Xv:=a/2^52) (M:=7) (amD (yr _ _) i) ab];rfl
  obtain⟨b,v,j⟩:=j;rw[j,show aJ (1019+(b:Z))=((1019+b:X):Z) by rw[fo aa aa];omega,nR ab ab,aC,Qu aa];refine bu.2 ?_;have f:=Ph (Xv:=a) (M:=9227875636482146303) (E:=1019+b) i ab aa;have e:=Pf (Xv:=a) (M:=9227875636482146303) (E:=1019+b) aa ab;have h:=Pg (ey bC (a:Z) 9227875636482146303) (((1019+b)<<<52:X):Z);show lp 41 41 (fN bC (ey bC (a:Z) 9227875636482146303) (((1019+b)<<<52:X):Z))/\_;have m:lp 5 4 (fN bC (ey bC (a:Z) 9227875636482146303) (((1019+b)<<<52:X):Z)):=(by refine lp.uI (E:=1019+b) h ?_ aa aa (.inl aa) aa aa aa;refine(b3 a8 f).trans ?_;rw[My,e.1]);exact⟨m.mono ab ab,λ_=>m⟩
 rw[cQ];refine ahH (λr=>?_) λr=>?_
 ·rw[vl ab ab,aC];have s:i4 ((a:Z)/2^(8:Z).toNat) 81=Y ((a/2^8 %81:X):Z):=by
   unfold i4;rw[au ab];rfl
  rw[s,aC];have w:a/2^8 %81<81:=aiI _ ab;generalize a/2^8 %81=d at*;rw[show aJ (983+(d:Z))=((983+d:X):Z) by rw[fo aa aa];omega,nR ab ab,aC,Qu aa];refine bu.2 ?_;have f:=Ph (Xv:=a) (M:=9225623836668461056) (E:=983+d) i ab aa;have e:=Pf (Xv:=a) (M:=9225623836668461056) (E:=983+d) aa ab;have h:=Pg (ey bC (a:Z) 9225623836668461056) (((983+d)<<<52:X):Z);show lp 41 41 (fN bC (ey bC (a:Z) 9225623836668461056) (((983+d)<<<52:X):Z))/\_;refine⟨lp.uI (E:=983+d) h ?_ aa aa (.inr ?_) aa aa aa,λg=>by omega⟩
  ·refine(b3 a8 f).trans ?_;rw[My,e.1]
  have q:=b3 (λp=>(fb p).toNat) f;refine Eq.trans (b3 (· %2251799813685248) q) ?_;show(fb _).toNat %2251799813685248=0;rw[UT,e.2,(ab:(2251799813685248:X)=2^51),alk,(ab:(9225623836668461056:X) %2^52 %2^51=0),amC]
 rw[cQ];refine ahH (λt=>?_) λ_=>?_
 ·exfalso;omega
 unfold GB;refine bz (y:=(iu (jx ((a:Z) %19-9)) 0,())) ?_ (bu.2 ?_)
 ·refine ah (y:=(a:Z) %19) ?_ ?_
  ·unfold i4;rw[au ab,Fq aa]
  dsimp only;rw[cK (x:=(a:Z) %19) aa aa,cK aa aa];exact ah (abX aa aa) rfl
 have g:=acJ (z:=(a:Z) %19-9) aa aa;exact⟨g.mono ab ab,λ_=>g⟩
section
def Jf (B:X):(2:Z)^B≠0:=by have:(0:Z)<2^B:=mg ab;omega
def Vd {B:X} (d:B=65536) (b:a8 k≠2047) (a:a2 k=Y c):gC (B-1074) c:=by rw[l5 b] at a;cases a;have e:=Dn b;exact(gC.shl _ _).mono aa
section
variable {A:X->X->ag6} {G:ew} {o:ahc} {n J:X}
variable {B b:X}
end
end
section
def cR (A e k c:X) (b:ag6):Prop:=∃a,b=Y a/\gC (A-e) a/\a.natAbs<=c*2^(A+k)
section
variable {A e k c B D C:X} {a b:ag6}
theorem cR.rng (g:A=65536) (i:k<=60000) (h:c<1048576) (a:z.natAbs<=c*2^(A+k)):fO z:=by have e:=lX a;have b:aL c<=20:=gp.2 aa;have d:aL (2^(A+k))<=A+k+1:=gp.2 (aaE _ _ aa);have f:=Bz b d;grind [fO]
theorem cR.mono (b:cR A e k c a) (i:e<=B) (j:k<=D) (g:c<=C):cR A B D C a:=by obtain⟨h,rfl,d,f⟩:=b;exact⟨h,bn,d.mono aa,dh f (oP g (rx _ _ aa))⟩
theorem cR.zero:cR A e k c (Y 0):=⟨0,bn,gC.zero _,c8 _⟩
def cR.neg (b:cR A e k c a):cR A e k c (c4 a):=by obtain⟨f,rfl,d,g⟩:=b;exact⟨-f,bn,d.neg,aa⟩
theorem cR.add (m:A=65536) (o:k<=60000) (j:cR A e k c a) (h:cR A e k C b) (n:c+C<1048576):cR A e k (c+C) (cH a b)/\cH a b=Y (a.getD 0+b.getD 0):=by obtain⟨d,rfl,l,q⟩:=j;obtain⟨f,rfl,i,p⟩:=h;have g:(d+f).natAbs<=(c+C)*2^(A+k):=(by grind);have e:cH (Y d) (Y f)=Y (d+f):=(by show mW (d+f)=_;unfold mW;rw[au (cR.rng m o n g)]);exact⟨⟨_,e,l.add i,g⟩,e⟩
theorem cR.mul (q:A=65536) (o:cR A e k c a) (m:cR A B D C b) (v:e+B<=60000) (s:k+D<=60000) (r:c*C<1048576):cR A (e+B) (k+D) (c*C) (cT a b)/\∃d f l,a=Y d/\b=Y f/\cT a b=Y l/\l*2^A=d*f:=by obtain⟨d,rfl,⟨g,t⟩,p⟩:=o;obtain⟨f,rfl,⟨h,u⟩,n⟩:=m;have ao:g*h*2^(A-(e+B))*2^A=d*f:=(by rw[t,u,jV (g*h),<-xM,(aa:A-(e+B)+A=(A-e)+(A-B)),xM];grind);have i:(g*h*2^(A-(e+B))).natAbs<=c*C*2^(A+(k+D)):=(by refine Nat.le_of_mul_le_mul_right (c:=2^A) ?_ (jG A);rw[<-iZ,ao,vL];refine dh (oP p n) (Nat.le_of_eq ?_);grind);have j:cT (Y d) (Y f)=Y (g*h*2^(A-(e+B))):=(by refine Of ?_ (cR.rng q s r i);grind);exact⟨⟨_,j,gC.shl _ _,i⟩,d,f,_,bn,bn,j,ao⟩
def cR.rc (c:A=65536) {f:Z} (a:a8 f≠2047):cR A 1074 1024 1 (a2 f):=by obtain⟨e,b⟩:=Ee a;refine⟨e,b,Vd c a b,?_⟩;rw[l5 a] at b;obtain rfl:=gD b;have g:=Dn a;have d:(gx f).natAbs<2^53:=gp.1 (Iu f);rw[iZ,mR];refine dh (iz _ (Nat.le_of_lt d)) ?_;rw[<-jf];exact rx _ _ aa
end
end
section
def hH (a c b:Z):ag6:=cT (cT (a2 a) (a2 c)) (a2 b)
section
variable {A c:X}
def cR.hH (a:A=65536) {b d c:Z} (e:a8 b≠2047) (g:a8 d≠2047) (f:a8 c≠2047):cR A 3222 3072 1 (hH b d c):=
 (cR.mul a (cR.mul a (cR.rc a e) (cR.rc a g) ab ab ab).1 (cR.rc a f) ab ab ab).1
def cR.sub (g:A=65536) {a:ag6} (d:cR A 3222 3072 c w) (b:cR A 3222 3072 1 a) (h:c+1<1048576):cR A 3222 3072 (c+1) (cH w (c4 a))/\cH w (c4 a)=Y (w.getD 0-a.getD 0):=by obtain⟨e,f⟩:=cR.add g ab d b.neg h;refine⟨e,f.trans ?_⟩;obtain⟨i,rfl,_⟩:=b;rfl
def cR.ac0 (a:A=65536) {f b d e:ag6} (g:cR A 3222 3072 c f) (h:cR A 3222 3072 1 w) (i:cR A 3222 3072 1 b) (j:cR A 3222 3072 1 d) (k:cR A 3222 3072 1 e) (E:c+4<1048576):cH (cH (cH (cH f (c4 w)) (c4 b)) (c4 d)) (c4 e)=cH f (c4 (cH (cH (cH w b) d) e))/\cR A 3222 3072 (c+4) (cH f (c4 (cH (cH (cH w b) d) e))):=by obtain⟨m,p⟩:=cR.sub a g h aa;obtain⟨n,q⟩:=cR.sub a m i aa;obtain⟨o,r⟩:=cR.sub a n j aa;obtain⟨D,s⟩:=cR.sub a o k aa;obtain⟨t,y⟩:=cR.add a ab h i ab;obtain⟨u,z⟩:=cR.add a ab t j ab;obtain⟨v,B⟩:=cR.add a ab u k ab;obtain⟨x,C⟩:=cR.add a ab g v.neg aa;refine⟨?_,x⟩;rw[s,C,r,q,p,B,z,y];obtain⟨l,rfl,_⟩:=g;show Y (l-w.getD 0-b.getD 0-d.getD 0-e.getD 0)=Y (l+-(w.getD 0+b.getD 0+d.getD 0+e.getD 0));congr 1;omega
end
structure aR where
 rows:ahb
 full:X
 s:X->X->ag6
def aR.ba (c:aR) (a b:X):Z:=iu (c.s a b) 0
def aR.av (c:aR) (a b:X):Z:=((a2 (c.ba a b)).getD 0).natAbs
def aR.fin (a:aR) (c:X):Prop:=∀b∈a.rows,a8 (a.ba b c)≠2047
instance(b:aR) (a:X):ahS (b.fin a):=amF ..
def e3 (b:X->Z) (c:X):ahb->Z×ag7->Z×ag7
 |[],a=>a
 |i::d,a=>e3 b c d (if i=c then a else if a.2=bo\/a.1<b i then(b i,Y i) else a)
def aR.fc (b:aR) (a:X):Z×ag7:=e3 (λc=>b.av c a) a b.rows (0,bo)
def aR.gF (a:aR):ahb->bv ahb
 |[]=>Y []
 |p::c=>if¬a.fin p then bo else
  if(a.fc p).1=0\/41*(a.fc p).1<=64*a.av p p then Y [p] else
  match(a.fc p).2 with
  |none=>Y [p]
  |some b=>if b∉a.rows.take a.full then a.gF c else if¬a.fin b then bo else
   if 41*((a.fc p).1*(a.fc p).1)<=64*(a.av p p*(a.fc b).1) then Y [p] else
   if 41*(a.fc b).1<=64*a.av b b then Y [b] else Y [p,b]
def aR.choose (a:aR):bv ahb:=a.gF (a.rows.take a.full)
structure a7 where
 cD:ahb
 d:ahc
 rows:ahb
 l:bm (X->Z)
def kU (a:ahc):ag6:=cH (cT (a2 (a.getD 0 0)) (a2 (a.getD 2 0))) (c4 (cT (a2 (a.getD 1 0)) (a2 (a.getD 1 0))))
def aR.gJ (a:aR):ahb->ahc
 |[p]=>[a.ba p p]
 |[p,r]=>[a.ba p p,a.ba r p,a.ba r r]
 |_=>[]
def aR.lc (a:aR):ahb->bm (X->Z)
 |[p]=>[λb=>if jy (a.ba p p)=0 then 0 else fV (a.s b p) (a2 (a.ba p p)) 0]
 |[p,r]=>[λb=>fV (cH (cT (a.s b p) (a2 (a.ba r r))) (c4 (cT (a.s b r) (a2 (a.ba r p))))) (kU (a.gJ [p,r])) 0,λb=>fV (cH (cT (a.s b r) (a2 (a.ba p p))) (c4 (cT (a.s b p) (a2 (a.ba r p))))) (kU (a.gJ [p,r])) 0]
 |_=>[]
def nA (e:ahc) (f:bm (X->Z)) (b d:X):ag6:=match e,f with
 |[d0],[a]=>hH (a b) d0 (a d)
 |[d0,d1,d2],[a,c]=>cH (cH (cH (hH (a b) d0 (a d)) (hH (a b) d1 (c d))) (hH (c b) d1 (a d))) (hH (c b) d2 (c d))
 |_,_=>Y 0
def aR.elim (a:aR) (c:ahb):aR:=⟨a.rows.filter λb=>br (b∉c),a.full-c.length,λb d=>cH (a.s b d) (c4 (nA (a.gJ c) (a.lc c) b d))⟩
def aR.eL (b:aR) (a:ahb):a7:=⟨a,b.gJ a,b.rows.filter λc=>br (c∉a),b.lc a⟩
def a7.fin (a:a7):Prop:=∀b∈a.l,∀c∈a.rows,a8 (b c)≠2047
instance(a:a7):ahS a.fin:=amF ..
def aR.run:X->aR->bv (aR×bm a7)
 |0,a=>Y (a,[])
 |n+1,a=>match a.choose with
  |none=>bo
  |some []=>Y (a,[])
  |some b=>if(a.eL b).fin then(aR.run n (a.elim b)).map λc=>(c.1,a.eL b::c.2) else bo
end
def fS (a:aR):de:=(a5 a.rows,(a.full:Z),a.rows.map (λb=>a.rows.map λc=>az (a.s b c)),())
def aR.okd (a:aR):Prop:=∀b∈a.rows,∀c∈a.rows,cL (a.s b c)
def EO (a:cL w):wV (az w,())=Y (iu w 0,()):=by unfold wV;exact ah (Qb a) rfl
def aR.FU (c:aR) (d:a8 (c.ba a b)≠2047):Bn (a2 (c.ba a b))=Y (c.av a b):=by obtain⟨f,e⟩:=Ee d;unfold aR.av;rw[e];rfl
theorem LV {c:aR} (k:c.okd) (o:c.rows.length<=1000) (j:c.rows[b]?=Y a):C9 (fS c,(b:Z),())=Y (if c.fin a then(c.rows.map (λd=>az (Y (c.av d a))),bp,()) else([],bq,())):=by
 have ao:ak (fS c).1=(c.rows.length:Z):=(by rw[bg];exact b3 _ (fI _));unfold C9;refine bP.1 ?_;refine bE (P:=λl=>l=if c.fin a then .inl (c.rows.map (λd=>az (Y (c.av d a))),()) else .inr ([],bq,())) ?_ ?_
 ·refine bS c.rows.length (λd m=>m=((d:Z),(c.rows.take d).map (λd=>az (Y (c.av d a))),())/\∀f∈c.rows.take d,a8 (c.ba f a)≠2047) ⟨bn,ac⟩ ?_ ?_
  ·rintro d _ g ⟨rfl,h⟩;dsimp only;rw[ao,aY (aH (aa:(d:Z)<(c.rows.length:Z))),bk aa];refine bz (y:=c.rows.map λf=>az (c.s c.rows[d] f)) ?_ ?_
   ·rw[fg];show(c.rows.map _)[d]?=_;grind
   refine bz (y:=az (c.s c.rows[d] a)) ?_ ?_
   ·grind [fg]
   refine bz (EO (k _ (b6 g) _ (aht j))) ?_;refine bz (xQ (AH _ _)) ?_;dsimp only;by_cases e:a8 (c.ba c.rows[d] a)=2047
   ·rw[aY (by show(!(!br (a8 (c.ba c.rows[d] a)=2047)))=bp;grind)];refine bu.2 ?_;rw[aw λi=>i _ (cO g) e]
   rw[a1 (by show(!(!br (a8 (c.ba c.rows[d] a)=2047)))=bq;grind)];refine bz (j9 (AH _ _)) (bz (abJ (gr _)) ?_);dsimp only;rw[eB (by grind),bN];refine bu.2 ⟨?_,λf n=>?_⟩
   ·rw[hR,bc g,iy];rw[show Bn (a2 (iu (c.s c.rows[d] a) 0))=Y (c.av c.rows[d] a) from c.FU e];rfl
   grind [ct,bR,ahk]
  rintro _ ⟨rfl,h⟩;dsimp only;rw[ao,a1 (aF (aa:¬(c.rows.length:Z)<(c.rows.length:Z))),cB] at*;refine bu.2 ?_;rw[b9 (show c.fin a from h)]
 rintro _ rfl;by_cases e:c.fin a
 ·rw[au e,au e];grind [bu]
 rw[aw e,aw e];grind [bu]
theorem NG (a:fO c) (b:fO k):C4 (az (Y c),az (Y k),())=Y (br (c<k),()):=by
 unfold C4;refine ah (abK a b) ?_;show Y (br (fE c k<0),())=_;unfold fE;by_cases d:c<k
 ·simp_all
 grind
theorem Nj {n:Z} (c:n.natAbs<1024) (d:a=65536):jx n=Y (n*2^a):=by
 have e:aL n.natAbs<=10:=gp.2 aa;unfold jx;rw[D6 (v:=n*2^a) ab (by rw[(aa:((0:Z)+65536).toNat=a)])];unfold mW;rw[au];unfold fO;rw[iZ];rcases n0 n.natAbs with b|b
 ·grind
 grind [oY]
theorem Ea (b:c.natAbs<1024) (e:fO (c*k)):cT (jx c) (Y k)=Y (c*k):=by obtain⟨a,d⟩:∃a:X,a=65536:=⟨_,bn⟩;rw[Nj b d];grind [Int.mul_assoc,aig,Of]
theorem JZ (d:cL (Y c)) (e:cL (Y k)) (a:fO (64*c)) (b:fO (41*k)):zB (az (Y c),az (Y k),())=Y (br (41*k<=64*c),()):=by unfold zB;refine ah (Jn ab ab) (ah (kM (xf _) d) (ah (Jn ab ab) (ah (kM (xf _) e) ?_)));rw[Ea ab a,Ea ab b];refine ah (NG a b) ?_;grind [aF,aH]
theorem xc (d:X->Z) (c:X):∀(a b:ahb) (e:Z×ag7),e3 d c (a++b) e=e3 d c b (e3 d c a e)
 |[],_,_=>rfl
 |i::a,b,e=>xc d c a b _
def pP:ag7->Z
 |none=>-1
 |some a=>a
theorem VF {vs:ahc} (t:∀e∈vs,fO e) (s:vs.length<=1000) (c:X):zA (vs.map (λe=>az (Y e)),(c:Z),())=Y (az (Y (e3 (λb=>vs.getD b 0) c (bH vs.length) (0,bo)).1),pP (e3 (λb=>vs.getD b 0) c (bH vs.length) (0,bo)).2,()):=by
 have n:∀a,fO (e3 (λb=>vs.getD b 0) c (bH a) (0,bo)).1:=λa=>by
  induction a with
  |zero=>exact c8 _
  |succ a q=>
   rw[iM,xc,e3,e3];split
   ·exact q
   split
   ·rcases cS a vs.length with j|j
    ·grind
    show fO (vs.getD a 0);rw[mi,qA j];exact c8 _
   omega
 unfold zA;refine bP.1 ?_;refine bE (P:=λg=>∃h,g=(pP (e3 (λb=>vs.getD b 0) c (bH vs.length) (0,bo)).2,h,az (Y (e3 (λb=>vs.getD b 0) c (bH vs.length) (0,bo)).1),())) ?_ (by grind [bu]);refine bS vs.length (λa g=>∃h,g=(pP (e3 (λb=>vs.getD b 0) c (bH a) (0,bo)).2,(a:Z),h,az (Y (e3 (λb=>vs.getD b 0) c (bH a) (0,bo)).1),())) ⟨_,bn⟩ ?_ ?_
 ·rintro a _ r ⟨h,rfl⟩;have o:=n a;have p:e3 (λb=>vs.getD b 0) c (bH (a+1)) (0,bo)=if a=c then e3 (λb=>vs.getD b 0) c (bH a) (0,bo) else if(e3 (λb=>vs.getD b 0) c (bH a) (0,bo)).2=bo\/(e3 (λb=>vs.getD b 0) c (bH a) (0,bo)).1<vs[a] then(vs[a],Y a) else e3 (λb=>vs.getD b 0) c (bH a) (0,bo):=by
   grind [jv,ahG,xc,e3]
  rw[p];generalize e3 (λb=>vs.getD b 0) c (bH a) (0,bo)=l at*;obtain⟨f,d⟩:=l;dsimp only at o|-;rw[aY (aH (show(a:Z)<ak (vs.map λe=>az (Y e)) by grind)),bk aa];have m:al (vs.map λe=>az (Y e)) (a:Z)=Y (az (Y vs[a])):=(by grind [fg,bR]);refine bE (P:=λg=>g=(pP (if a=c then(f,d) else if d=bo\/f<vs[a] then(vs[a],Y a) else(f,d)).2,h,az (Y (if a=c then(f,d) else if d=bo\/f<vs[a] then(vs[a],Y a) else(f,d)).1),())) ?_ (by grind [bu]);refine bE (P:=λg=>g=(br (a≠c/\(d=bo\/f<vs[a])),h,az (Y f),())) ?_ ?_
  ·by_cases i:a=c
   ·subst i;rw[a1 (by grind)];grind [aF,bu]
   rw[aY (by grind)];cases d with
   |none=>
    rw[a1 (by rfl)];grind [aH,bu]
   |some d=>
    rw[aY (by show(br ((d:Z)<0)==bq)=bp;grind)];simp_all [cu,bu,bz,NG,cO]
  rintro _ rfl;dsimp only;rw[cQ];refine ahH (λk=>?_) (λk=>?_)
  ·rw[aw k.1,au k.2];exact bz m (bu.2 bn)
  by_cases i:a=c
  ·rw[au i];grind [bu]
  rw[aw i,aw λj=>k ⟨i,j⟩];grind [bu]
 rintro _ ⟨h,rfl⟩;dsimp only;rw[a1 (aF (show¬(vs.length:Z)<ak (vs.map λe=>az (Y e)) by grind))];grind [bu]
theorem gC.Ss (b:gC a c):gC a (c.natAbs:Z):=by
 rcases Int.natAbs_eq c with d|d
 ·grind
 have:=b.neg;grind
def cR.abs (d:cR a j q b (Y c)):cR a j q b (Y (c.natAbs:Z)):=by obtain⟨h,f,e,g⟩:=d;cases f;exact⟨_,bn,gC.Ss e,aa⟩
def aR.sc (f:a=65536) (e:aR) (c:a8 (e.ba b j)≠2047):cR a 1074 1024 1 (Y (e.av b j)):=by have:=cR.rc f c;obtain⟨g,d⟩:=Ee c;rw[d] at this;unfold aR.av;rw[d];exact this.abs
theorem HJ {a:X} {e:X->Z} {h:X}:∀{c:ahb} {b:Z×ag7},(∀i∈c,cR a 1074 1024 1 (Y (e i)))->cR a 1074 1024 1 (Y b.1)->cR a 1074 1024 1 (Y (e3 e h c b).1)
 |[],_,_,d=>d
 |i::c,b,f,d=>by rw[e3];refine HJ (λg j=>f g (by grind)) ?_;grind
def aR.DH (e:a=65536) (c:aR) (d:c.fin b):cR a 1074 1024 1 (Y (c.fc b).1):=HJ (λg f=>c.sc e (d g f)) cR.zero
theorem cR.lG (f:a=65536) (d:cR a q j b (Y c)) (h:j<=60000) (g:b<1048576):fO c:=by obtain⟨k,i,_,e⟩:=d;grind [cR.rng]
def cR.oy {d:Z} (g:j=65536) (e:cR j q a b (Y d)) (h:a<=60000) (m:b<=1024) (i:z.natAbs<=100):fO (z*d):=by obtain⟨n,l,_,f⟩:=e;cases l;refine cR.rng (c:=102400) g h ab (k:=a) ?_;rw[vL];refine dh (oP i f) ?_;rw[<-oO];exact iz _ aa
theorem VE {c:aR} (q:c.rows.Nodup) (p:c.rows[a]?=Y b):∀d,d<=c.rows.length->(e3 (λf=>(c.rows.map λe=>c.av e b).getD f 0) a (bH d) (0,bo)).1=(e3 (λe=>c.av e b) b (c.rows.take d) (0,bo)).1/\(∀g,(e3 (λf=>(c.rows.map λe=>c.av e b).getD f 0) a (bH d) (0,bo)).2=Y g->g<d/\(e3 (λe=>c.av e b) b (c.rows.take d) (0,bo)).2=c.rows[g]?)/\((e3 (λf=>(c.rows.map λe=>c.av e b).getD f 0) a (bH d) (0,bo)).2=bo->(e3 (λe=>c.av e b) b (c.rows.take d) (0,bo)).2=bo):=by
 obtain⟨z,rfl⟩:=hJ.1 p;intro d
 induction d with
 |zero=>
  intro _;refine⟨bn,?_,λ_=>rfl⟩;intro g h;cases h
 |succ d t=>
  intro y;obtain⟨j,o,k⟩:=t aa;have r:c.rows.take (d+1)=c.rows.take d++[c.rows[d]]:=(by simp_all);have s:(c.rows.map λe=>c.av e c.rows[a]).getD d 0=c.av c.rows[d] c.rows[a]:=(by grind);have x:c.rows[d]=c.rows[a]↔d=a:=⟨λh=>(aiA q).1 h,λh=>by grind⟩;rw[ahG,xc,r,xc];generalize e3 (λf=>(c.rows.map λe=>c.av e c.rows[a]).getD f 0) a (bH d) (0,bo)=l at*;generalize e3 (λe=>c.av e c.rows[a]) c.rows[a] (c.rows.take d) (0,bo)=m at*;obtain⟨u,i⟩:=l;obtain⟨v,n⟩:=m;dsimp only at j o k;subst j;have A:i=bo↔n=bo:=by
   constructor
   ·exact k
   intro w;cases i with
   |none=>rfl
   |some g=>
    grind
  rw[e3,e3,e3,e3,s];grind
theorem M4 {c:aR} (q:c.rows.length<=1000) (o:c.rows.Nodup) (l:c.rows[b]?=Y a) (m:c.fin a):∃f:ag7,zA (c.rows.map (λd=>az (Y (c.av d a))),(b:Z),())=Y (az (Y (c.fc a).1),pP f,())/\(∀e,f=Y e->e<c.rows.length/\(c.fc a).2=c.rows[e]?)/\(f=bo->(c.fc a).2=bo):=by
 obtain⟨g,i⟩:∃g:X,g=65536:=⟨_,bn⟩;have h:=VF (vs:=c.rows.map λd=>c.av d a) (λr p=>by
  obtain⟨d,n,rfl⟩:=eP.1 p;exact(c.sc i (m d n)).lG i ab ab) (by grind) b
 obtain⟨ax,j,k⟩:=VE o l c.rows.length (bd _);rw[hS] at ax j k;rw[oL,e8,ax] at h;exact⟨_,h,j,k⟩
def qu (a:aR) (d:ahb) (e:ahc×bA×bt):Prop:=(e=([],bq,())/\a.gF d=bo)\/∃c:ahb,e=(a5 c,bp,())/\(∀b∈c,b<a.rows.length)/\a.gF d=Y (c.map λb=>a.rows.getD b 0)
theorem qu.of {a:aR} (c:a.gF d=a.gF l) (b:qu a l x):qu a d x:=by grind [qu]
theorem HK {e:X->Z} {d:X}:∀{c:ahb} {a:Z×ag7},(e3 e d c a).2=bo->a.2=bo/\(e3 e d c a).1=a.1
 |[],_,b=>⟨b,bn⟩
 |i::c,a,b=>by rw[e3] at b|-;obtain⟨f,g⟩:=HK b;grind
theorem D9 {b d e:Z} (f:c*2^a=z*b) (g:k*2^a=d*e):41*c<=64*k↔41*(z*b)<=64*(d*e):=by have h:(0:Z)<2^a:=mg ab;rw[<-f,<-g,<-jV,<-jV];simp_all
theorem abA {a:aR} (J:a.okd) (p:a.rows.length<=1000) (F:a.rows.Nodup) (cs:a.full<=a.rows.length):ae (C8 (fS a,())) λh=>qu a (a.rows.take a.full) h:=by
 obtain⟨A,e⟩:∃A:X,A=65536:=⟨_,bn⟩;unfold C8;refine bE (P:=λf=>(f=.inl ()/\a.gF (a.rows.take a.full)=Y [])\/∃h,f=.inr h/\qu a (a.rows.take a.full) h) ?_ ?_
 rotate_left
 ·rintro _ (⟨rfl,k⟩|⟨h,rfl,k⟩)
  ·exact bu.2 (.inr ⟨[],bn,ac,k⟩)
  grind [bu]
 refine bS a.full (λd bx=>bx=((d:Z),())/\a.gF (a.rows.take a.full)=a.gF ((a.rows.take a.full).drop d)) ⟨bn,bn⟩ ?_ ?_
 rotate_left
 ·rintro _ ⟨rfl,k⟩;dsimp only;rw[a1 (aF (show¬(a.full:Z)<(fS a).2.1 from aln _))];refine bu.2 (.inl ⟨bn,?_⟩);grind [ak8,aho,aR.gF]
 rintro d _ dl ⟨rfl,am⟩;dsimp only;have a3:d<a.rows.length:=aa;have t:a.rows[d]?=Y a.rows[d]:=bR a3;have an:(a.rows.take a.full).drop d=a.rows[d]::(a.rows.take a.full).drop (d+1):=(by grind [ai4,aho]);have c1:a.rows.getD d 0=a.rows[d]:=(by grind);rw[aY (aH (show(d:Z)<(fS a).2.1 by show(d:Z)<(a.full:Z);omega)),bk aa];refine bE (P:=λf=>(f=.inl ()/\a.gF ((a.rows.take a.full).drop d)=a.gF ((a.rows.take a.full).drop (d+1)))\/∃h,f=.inr (.inr (.inr h))/\qu a ((a.rows.take a.full).drop d) h) ?_ ?_
 rotate_left
 ·rintro _ (⟨rfl,k⟩|⟨h,rfl,k⟩)
  ·grind [bu]
  exact bu.2 (.inr ⟨h,bn,k.of am⟩)
 rw[an];generalize(a.rows.take a.full).drop (d+1)=B;generalize a.rows[d]=b at*;refine bz (LV J p t) ?_;by_cases l:a.fin b
 rotate_left
 ·rw[cf l];dsimp only;rw[aY (by rfl)];refine bu.2 (.inr ⟨_,bn,.inl ⟨bn,?_⟩⟩);rw[aR.gF,b9 l]
 rw[b9 l];dsimp only;rw[a1 (by rfl)];obtain⟨ce,S,T,U⟩:=M4 p F t l;refine bz S ?_;dsimp only;have q:=a.DH e l;have V:=aht t;have v:=a.sc e (l b V);have r:cL (Y (a.fc b).1):=λn g=>(by cases g;exact q.lG e ab ab);have G:cL (Y (a.av b b)):=λn g=>(by cases g;exact v.lG e ab ab);have D:al (a.rows.map λx=>az (Y (a.av x b))) (d:Z)=Y (az (Y (a.av b b))):=(by grind [fg]);refine bE (P:=λf=>f=if(a.fc b).1=0\/41*(a.fc b).1<=64*a.av b b then .inr (.inr (.inr (.inr ([(d:Z)],bp,())))) else .inl (az (Y (a.fc b).1),())) ?_ ?_
 ·refine bE (P:=λf=>f=(br ((a.fc b).1=0\/41*(a.fc b).1<=64*a.av b b),az (Y (a.fc b).1),())) ?_ ?_
  ·refine bz (Jp r) ?_;dsimp only;by_cases o:(a.fc b).1=0
   ·rw[a1 (by show((gA (a.fc b).1==0)==bq)=bq;grind [jD,aH])];grind [aH,bu]
   rw[aY (by show((gA (a.fc b).1==0)==bq)=bp;grind [jD,aF])];refine bz D (bz (JZ G r (v.oy e ab ab ab) (q.oy e ab ab ab)) ?_);simp_all [cu,bu]
  rintro _ rfl;dsimp only;rw[cQ];refine ahH (λo=>?_) (λo=>?_)
  ·rw[au o];grind [bu]
  rw[aw o];grind [bu]
 rintro _ rfl;by_cases s:(a.fc b).1=0\/41*(a.fc b).1<=64*a.av b b
 ·rw[au s];refine bu.2 (.inr ⟨_,bn,.inr ⟨[d],bn,by grind,?_⟩⟩);simp_all [aw,ahe,au,tI,aR.gF]
 rw[cf s];dsimp only;cases ce with
 |none=>
  exfalso;exact s (.inl (HK (U bn)).2)
 |some c=>
  obtain⟨a0,c2⟩:=T c bn;have u:a.rows[c]?=Y a.rows[c]:=bc a0;have cv:a.rows.getD c 0=a.rows[c]:=(by grind);have m:a.gF (b::B)=if a.rows[c]∉a.rows.take a.full then a.gF B else if¬a.fin a.rows[c] then bo else
   if 41*((a.fc b).1*(a.fc b).1)<=64*(a.av b b*(a.fc a.rows[c]).1) then Y [b] else
   if 41*(a.fc a.rows[c]).1<=64*a.av a.rows[c] a.rows[c] then Y [a.rows[c]] else Y [b,a.rows[c]]:=by
   simp_all [aw,ahe,aR.gF]
  have E:a.rows[c]∈a.rows.take a.full↔c<a.full:=(by grind [aiA,aiY]);generalize a.rows[c]=i at*;show ae (bif br ((c:Z)>=(fS a).2.1) then _ else _) _;by_cases C:c<a.full
  rotate_left
  ·rw[aY (aH (show(c:Z)>=(fS a).2.1 by show(a.full:Z)<=(c:Z);omega))];exact bu.2 (.inl ⟨bn,m.trans (au (mt E.1 C))⟩)
  rw[a1 (aF (show¬(c:Z)>=(fS a).2.1 by show¬(a.full:Z)<=(c:Z);omega))];rw[aw (ahe (E.2 C))] at m;refine bz (LV J p u) ?_;by_cases j:a.fin i
  rotate_left
  ·rw[cf j];dsimp only;rw[aY (by rfl)];exact bu.2 (.inr ⟨_,bn,.inl ⟨bn,m.trans (b9 j)⟩⟩)
  rw[b9 j];dsimp only;rw[a1 (by rfl)];rw[cf (ahe j)] at m;obtain⟨ds,bl,_,_⟩:=M4 p F u j;refine bz bl ?_;dsimp only;have w:=a.DH e j;have ad:=aht u;have H:=a.sc e (j i ad);have I:cL (Y (a.fc i).1):=λn g=>(by cases g;exact w.lG e ab ab);have a4:cL (Y (a.av i i)):=λn g=>(by cases g;exact H.lG e ab ab);have ap:al (a.rows.map λx=>az (Y (a.av x i))) (c:Z)=Y (az (Y (a.av i i))):=(by grind [fg]);obtain⟨y,_,_,ci,ao,O,K,L⟩:=cR.mul e v w ab ab ab;obtain⟨z,_,_,co,Q,R,M,N⟩:=cR.mul e q q ab ab ab;cases ao;cases O;cases Q;cases R;rw[K] at y;rw[M] at z;refine bz D (bz (kM G I) (bz (kM r r) ?_));rw[K,M];refine bz (JZ (λn g=>by cases g;exact y.lG e ab ab) (λn g=>by cases g;exact z.lG e ab ab) (y.oy e ab ab ab) (z.oy e ab ab ab)) ?_;dsimp only;rw[cQ];refine ahH (λf=>?_) (λf=>?_)
  ·rw[D9 N L] at f;refine bu.2 (.inr ⟨_,bn,.inr ⟨[d],bn,by grind,?_⟩⟩);grind
  rw[D9 N L] at f;rw[cf f] at m;refine bz ap (bz (JZ a4 I (H.oy e ab ab ab) (w.oy e ab ab ab)) ?_);dsimp only;rw[cQ];refine ahH (λf=>?_) (λf=>?_)
  ·refine bu.2 (.inr ⟨_,bn,.inr ⟨[c],bn,by grind,?_⟩⟩);grind
  refine bu.2 (.inr ⟨_,bn,.inr ⟨[d,c],bn,by grind,?_⟩⟩);grind
def abl (b:eJ k) (a:eJ c) (d:eJ z):C6 ([k,c,z],())=Y (az (kU [k,c,z]),()):=by unfold C6;refine ah (y:=k) rfl (ah (y:=z) rfl (ah (PA b d) (ah (y:=c) rfl (ah (y:=c) rfl (ah (PA a a) ?_)))));refine ah (AA (kJ _ _) (kJ _ _)) rfl
def aR.k5 (c:aR) (a b:X):eJ (c.ba a b):=AH _ _
theorem w3 {x:aR} {i k I P:X} (c:x.rows[i]?=Y I) (d:x.rows[k]?=Y P):∃a,al (fS x).2.2.1 (i:Z)=Y a/\al a (k:Z)=Y (az (x.s I P)):=by
 refine⟨x.rows.map λb=>az (x.s I b),?_,?_⟩
 ·rw[fg];show(x.rows.map _)[i]?=_;grind
 grind [fg]
def adP {c:aR} (m:c.okd) (e:c.rows[q]?=Y b) (f:c.rows[j]?=Y a) (g:hg) (k:g.2.1=[c.ba a a]):wX (g,fS c,[(j:Z)],(q:Z),())=Y ((c.lc [a]).map (· b),()):=by
 obtain⟨n,h,i⟩:=w3 e f;have l:=m b (aht e) a (aht f);unfold wX;refine ah h (ah (y:=(j:Z)) rfl (ah i ?_));rw[aY (by rfl)];rw[k];refine ah (y:=c.ba a a) rfl (ah (V7 (c.k5 a a)) ?_);dsimp only;rw[cQ];show(if jy (c.ba a a)=0 then _ else _)=Y ([if jy (c.ba a a)=0 then 0 else fV (c.s b a) (a2 (c.ba a a)) 0],());by_cases d:jy (c.ba a a)=0
 ·rw[au d,au d]
 rw[aw d,aw d];exact ah (y:=c.ba a a) rfl (ah (j9 (c.k5 a a)) (ah (Jg l (gr _)) rfl))
def adQ {c:aR} (n:c.okd) {o f:X} (d:c.rows[o]?=Y j) (h:c.rows[f]?=Y a) (i:c.rows[q]?=Y b) (g:hg) (e:g.2.1=c.gJ [a,b]):wX (g,fS c,[(f:Z),(q:Z)],(o:Z),())=Y ((c.lc [a,b]).map (· j),()):=by obtain⟨u,p,r⟩:=w3 d h;obtain⟨v,s,t⟩:=w3 d i;have l:=n j (jd d) a (jd h);have m:=n j (jd d) b (jd i);have e:g.2.1=[c.ba a a,c.ba b a,c.ba b b]:=e;unfold wX;refine ah p (ah (y:=(f:Z)) rfl (ah r ?_));rw[a1 (by rfl)];rw[e];refine ah s (ah (y:=(q:Z)) rfl (ah t ?_));refine ah (y:=c.ba a a) rfl (ah (j9 (c.k5 _ _)) (ah (y:=c.ba b a) rfl (ah (j9 (c.k5 _ _)) (ah (y:=c.ba b b) rfl (ah (j9 (c.k5 _ _)) ?_)))));refine ah (kM l (gr _)) (ah (kM m (gr _)) (ah (AA (kJ _ _) (kJ _ _)) ?_));refine ah (kM m (gr _)) (ah (kM l (gr _)) (ah (AA (kJ _ _) (kJ _ _)) ?_));have k:=abl (c.k5 a a) (c.k5 b a) (c.k5 b b);refine ah k (ah (Jg (kA _ _) (kA _ _)) (ah k (ah (Jg (kA _ _) (kA _ _)) rfl)))
def Vf {d:hg} (h:ak d.1=1) (m:d.2.2.2.1=[f]) (l:d.2.1=[z]) (i:f[a]?=Y c) (j:f[b]?=Y k) (n:eJ c) (o:eJ k) (p:eJ z):wW (d,(a:Z),(b:Z),())=Y (az (hH c z k),()):=by have e:al f (a:Z)=Y c:=(by rw[fg,i]);have g:al f (b:Z)=Y k:=(by rw[fg,j]);unfold wW;dsimp only;rw[m,l,h];refine ah (y:=f) rfl (ah e (ah (j9 n) (ah (y:=f) rfl (ah g (ah (j9 o) (ah (y:=z) rfl (ah (j9 p) (ah (kM (gr _) (gr _)) (ah (kM (kJ _ _) (gr _)) ?_)))))))));rw[a1 (by rfl)];rfl
def Vg {h:hg} {i e j g:Z} (p:ak h.1=2) (w:h.2.2.2.1=[f,t]) (u:h.2.1=[i,e,j]) (q:f[a]?=Y c) (r:f[b]?=Y k) (s:t[a]?=Y z) (v:t[b]?=Y g) (A:eJ c) (B:eJ k) (C:eJ z) (G:eJ g) (D:eJ i) (E:eJ e) (F:eJ j):wW (h,(a:Z),(b:Z),())=Y (az (cH (cH (cH (hH c i k) (hH c e g)) (hH z e k)) (hH z j g)),()):=by have l:al f (a:Z)=Y c:=(by rw[fg,q]);have m:al f (b:Z)=Y k:=(by rw[fg,r]);have n:al t (a:Z)=Y z:=(by rw[fg,s]);have o:al t (b:Z)=Y g:=(by rw[fg,v]);have d:=λ(x h:ag6)=>kJ x h;unfold wW;dsimp only;rw[w,u,p];refine ah (y:=f) rfl (ah l (ah (j9 A) (ah (y:=f) rfl (ah m (ah (j9 B) (ah (y:=i) rfl (ah (j9 D) (ah (kM (gr _) (gr _)) (ah (kM (d _ _) (gr _)) ?_)))))))));rw[aY (by rfl)];refine ah (y:=((bq,((bq,(([]:ahc),())),((0:Z),()))),az (cH (cH (cH (hH c i k) (hH c e g)) (hH z e k)) (hH z j g)),())) ?_ bn;refine ah (y:=t) rfl (ah n (ah (j9 C) (ah (y:=t) rfl (ah o (ah (j9 G) (ah (y:=e) rfl (ah (j9 E) (ah (y:=j) rfl (ah (j9 F) ?_)))))))));refine ah (kM (gr _) (gr _)) (ah (kM (d _ _) (gr _)) (ah (Az (d _ _) (d _ _)) ?_));refine ah (kM (gr _) (gr _)) (ah (kM (d _ _) (gr _)) (ah (Az (kA _ _) (d _ _)) ?_));refine ah (kM (gr _) (gr _)) (ah (kM (d _ _) (gr _)) (ah (Az (kA _ _) (d _ _)) rfl))
theorem Aq {l:ahb} (o:l.length<=1000) (a:X):∃e:Z,sy (a5 l,(a:Z),())=Y (e,())/\(a∈l->∃b:X,e=b/\l[b]?=Y a)/\(a∉l->e=-1):=by
 suffices h:ae (sy (a5 l,(a:Z),())) λd=>(a∈l->∃b:X,d.1=b/\l[b]?=Y a)/\(a∉l->d.1=-1) by obtain⟨⟨e,_⟩,k,m⟩:=h;grind
 have ao:ak (a5 l)=(l.length:Z):=(by rw[bg,fI]);unfold sy;refine bE (P:=λd=>(d=.inl ()/\a∉l)\/∃b:X,d=.inr ((b:Z),())/\l[b]?=Y a) ?_ ?_
 ·refine bS l.length (λc i=>i=((c:Z),())/\a∉l.take c) ⟨bn,ac⟩ ?_ ?_
  ·rintro c _ n ⟨rfl,f⟩;dsimp only;rw[ao,aY (aH (aa:(c:Z)<(l.length:Z))),bk aa];refine bz (y:=(l[c]:Z)) ?_ ?_
   ·rw[fg];show(l.map λ(j:X)=>(j:Z))[c]?=_;grind
   rw[gH,cQ];refine ahH (λg=>?_) (λg=>?_)
   ·grind [bR,bu]
   grind [bu,ct,bR,ahk]
  rintro _ ⟨rfl,f⟩;dsimp only;rw[cB] at f;rw[ao,a1 (aF (aa:¬(l.length:Z)<(l.length:Z)))];grind [bu]
 grind [bu,aht]
def gd (d:aR) (c:ahb) (b:X):ahb:=((bH b).filter λa=>br (a∉c)).map λa=>d.rows.getD a 0
theorem Jy (b:aR) (c:a∈d):gd b d (a+1)=gd b d a:=by grind [ahG,gd]
theorem Jz (b:aR) (c:a∉d):gd b d (a+1)=gd b d a++[b.rows.getD a 0]:=by grind [ahG,gd]
theorem EP (c:aR) (b:ahb) (a:X):(gd c b a).length<=a:=by grind [cA,ahF,cj,gd]
def kq (a:aR) (b:ahb) (c:X):de:=(a5 (gd a b c),ay ((a.full:Z)-(b.length:Z)),(gd a b c).map (λd=>(gd a b a.rows.length).map λe=>az (a.s d e)),())
theorem ad0 {a:aR} (C:a.rows.length<=1000) (l:d.length<=1000):GW (fS a,a5 d,())=Y (kq a d a.rows.length,()):=by
 have ao:ak (fS a).1=(a.rows.length:Z):=(by rw[bg];exact b3 _ (fI _));have m:ak (a5 d)=(d.length:Z):=(by rw[bg,fI]);have q:∀b,b<a.rows.length->al (fS a).1 (b:Z)=Y ((a.rows.getD b 0:X):Z):=λb j=>(by rw[fg];show(a.rows.map λ(a:X)=>(a:Z))[b]?=_;grind);unfold GW;refine bP.1 ?_;dsimp only;rw[m];refine bE (P:=λf=>∃c,f=(c,kq a d a.rows.length,())) ?_ (by grind [bu]);refine bS a.rows.length (λb f=>∃c,f=((b:Z),c,kq a d b,())) ⟨_,bn⟩ ?_ ?_
 rotate_left
 ·rintro _ ⟨c,rfl⟩;dsimp only;rw[ao,a1 (aF (aa:¬(a.rows.length:Z)<(a.rows.length:Z)))];grind [bu]
 rintro b _ j ⟨c,rfl⟩;dsimp only;rw[ao,aY (aH (aa:(b:Z)<(a.rows.length:Z))),bk aa];refine bE (P:=λf=>∃c,f=(c,kq a d (b+1),())) ?_ (by grind [bu]);obtain⟨y,o,p,A⟩:=Aq l b;refine bz o ?_;dsimp only;have D:=EP a d b;by_cases h:b∈d
 ·obtain⟨e,rfl,_⟩:=p h;rw[aY (aH (aa:(e:Z)>=0))];grind [Jy,bu,kq]
 rw[a1 (aF (show¬y>=0 by grind))];refine bz (q b j) ?_;have E:(a5 (gd a d b)).length=(gd a d b).length:=fI _;rw[eB (by show(a5 (gd a d b)).length+1<=_;omega),aC];refine bE (P:=λf=>∃c,f=(c,((kq a d b).1++[((a.rows.getD b 0:X):Z)],(kq a d b).2),(gd a d a.rows.length).map (λg=>az (a.s (a.rows.getD b 0) g)),())) ?_ ?_
 ·refine bS a.rows.length (λe f=>∃c,f=((e:Z),c,((kq a d b).1++[((a.rows.getD b 0:X):Z)],(kq a d b).2),(gd a d e).map (λg=>az (a.s (a.rows.getD b 0) g)),())) ⟨c,bn⟩ ?_ ?_
  ·rintro e _ B ⟨c,rfl⟩;dsimp only;rw[aY (aH (aa:(e:Z)<(a.rows.length:Z))),bk aa];refine bE (P:=λf=>∃c,f=(c,((kq a d b).1++[((a.rows.getD b 0:X):Z)],(kq a d b).2),(gd a d (e+1)).map (λg=>az (a.s (a.rows.getD b 0) g)),())) ?_ (by grind [bu]);obtain⟨z,r,t,G⟩:=Aq l e;refine bz r ?_;dsimp only;by_cases n:e∈d
   ·obtain⟨u,rfl,_⟩:=t n;rw[a1 (aF (aa:¬(u:Z)<0))];grind [Jy,bu]
   rw[aY (aH (show z<0 by grind))];obtain⟨H,v,w⟩:=w3 (x:=a) (i:=b) (k:=e) (I:=a.rows.getD b 0) (P:=a.rows.getD e 0) (by grind) (by grind);have:=EP a d e;refine bz v (bz w ?_);rw[eB (by grind),aC];grind [Jz,bu]
  rintro _ ⟨c,rfl⟩;dsimp only;rw[a1 (aF (aa:¬(a.rows.length:Z)<(a.rows.length:Z)))];grind [bu]
 rintro _ ⟨c,rfl⟩;dsimp only;have F:(kq a d b).2.2.1.length=(gd a d b).length:=cj ..;rw[eB (by grind),bN];refine bu.2 ⟨c,?_⟩;unfold kq;rw[Jz a h,oo,akg];rfl
structure mj (x:aR) (l P:ahb):Prop where
 jE:(∃k a,l=[k]/\P=[a]/\x.rows[k]?=Y a)\/∃k j a b,l=[k,j]/\P=[a,b]/\x.rows[k]?=Y a/\x.rows[j]?=Y b
theorem mj.len {a:aR} (c:mj a d l):d.length=l.length/\d.length<=2/\0<d.length/\(a.lc l).length=d.length:=by rcases c.jE with⟨e,b,rfl,rfl,_⟩|⟨e,g,b,f,rfl,rfl,_⟩<;>exact⟨bn,ac,ac,bn⟩
theorem mj.get {e:aR} (f:mj e d l) (j:a<d.length):∃c b,d[a]?=Y c/\l[a]?=Y b/\e.rows[c]?=Y b:=by
 rcases f.jE with⟨c,b,rfl,rfl,g⟩|⟨c,k,b,h,rfl,rfl,g,i⟩
 ·grind
 grind
def mj.adO {c:aR} (k:mj c l d) (i:c.okd) (g:c.rows[b]?=Y a) (e:hg) (h:e.2.1=c.gJ d):wX (e,fS c,a5 l,(b:Z),())=Y ((c.lc d).map (· a),()):=by
 rcases k.jE with⟨n,j,rfl,rfl,f⟩|⟨n,p,j,o,rfl,rfl,f,m⟩
 ·exact adP i g f e h
 exact adQ i g f m e h
theorem Ny (e:aR) (d:ahb):∀c∈e.lc d,∀b,eJ (c b):=by
 intro c a b;unfold aR.lc at a;split at a
 ·obtain rfl:=ahk.1 a;dsimp only;split
  ·exact⟨ab,ab⟩
  exact Av 0
 ·simp only[fR,List.not_mem_nil,or_false] at a;rcases a with rfl|rfl
  ·exact Av 0
  exact Av 0
 grind
def hL (a:aR) (e b:ahb) (d:X):ew:=(a.lc b).map λc=>(gd a e d).map c
theorem mj.form {a:aR} (j:mj a d l) {q:hg} (f:ak q.1=(d.length:Z)) (h:q.2.2.2.1=hL a d l a.rows.length) (g:q.2.1=a.gJ l) {i m I M:X} (r:(gd a d a.rows.length)[i]?=Y I) (s:(gd a d a.rows.length)[m]?=Y M):wW (q,(i:Z),(m:Z),())=Y (az (nA (a.gJ l) (a.lc l) I M),()):=by
 have e:=Ny a l;have c:∀b:X->Z,((gd a d a.rows.length).map b)[i]?=Y (b I)/\((gd a d a.rows.length).map b)[m]?=Y (b M):=λb=>⟨by grind,by grind⟩;rcases j.jE with⟨n,b,rfl,rfl,k⟩|⟨n,t,b,o,rfl,rfl,k,p⟩
 ·exact Vf f h g (c _).1 (c _).2 (e _ (gj.2 bn) I) (e _ (gj.2 bn) M) (a.k5 _ _)
 exact Vg f h g (c _).1 (c _).2 (c _).1 (c _).2 (e _ (ng ..) I) (e _ (ng ..) M) (e _ (g6 _ (gj.2 bn)) I) (e _ (g6 _ (gj.2 bn)) M) (a.k5 _ _) (a.k5 _ _) (a.k5 _ _)
theorem acw {b a:bm h} (g:b.length=a.length) {k:X} (f:k<a.length) {c:h} (i:b[k]?=Y c):(b.take k++a.drop k).set k c=b.take (k+1)++a.drop (k+1):=by have d:(b.take k).length=k:=(by grind);have e:a.drop k=a[k]::a.drop (k+1):=vN f;rw[List.set_append,aw aa,d,oQ,e];grind [ct,ahP]
theorem Xf {b a:bm h} (c:b.length=a.length) {k:X} (d:k<a.length):(b.take k++a.drop k)[k]?=Y a[k]:=by grind
theorem Wu (b:aR) (a:ahb):(b.lc a).length<=2:=by unfold aR.lc;grind
theorem U4 {b:aR} (ap:a<b.rows.length) (av:b.rows.length<=1000) (am:a∉l) {t:de} {u:hg} {v:de} {p q s:aA}:ae (loop (σ:=qJ) (ρ:=(nl⊕(nl⊕(qJ⊕(nl⊕(de×hg×bA×bt)))))) (λ(h,D,E,w,e,_)=>
 bif br (h<ak ((b.lc d).map (· (b.rows.getD a 0)))) then
 (al ((b.lc d).map (· (b.rows.getD a 0))) h).bind λR=>
 (pY (R,())).bind λ(N,_)=>
  bif !N then
 Y (.inr (.inr (.inr (.inr (.inr (w,e,bq,())))))) else
 (bj (e.2.2.2.1).length h).bind λC=>
 (al ((b.lc d).map (· (b.rows.getD a 0))) h).bind λF=>
 (bb e.2.2.2.1 C λG=>Y G).bind λO=>
 (cG (O.length+([F]).length)).bind λ_=>
 (bj (e.2.2.2.1).length h).bind λo=>
  bif bI C o&&bp then
 (bb e.2.2.2.1 o λH=>Y H).bind λP=>
 (((((bb e.2.2.2.1 o λ_=>Y ((e.2.2.2.1).set o (P++[F]))).map λS=>(S,e.2.2.2.2)).map λT=>(e.2.2.1,T)).map λU=>(e.2.1,U)).map λV=>(e.1,V)).bind λad=>
 Y (.inl (aP h,D,E,w,ad,())) else bo else
 Y (.inr (.inl (D,E,w,e,())))) (0,t,u,v,(p,q,s,hL b l d a,()),())) λj=>
  ((∀g∈b.lc d,a8 (g (b.rows.getD a 0))≠2047)/\j=.inl (t,u,v,(p,q,s,hL b l d (a+1),()),()))\/((∃g∈b.lc d,a8 (g (b.rows.getD a 0))=2047)/\∃Q M,j=.inr (.inr (.inr (.inr (Q,M,bq,()))))):=by
 have a0:=Wu b d;generalize an:b.rows.getD a 0=f;have bl:hL b l d (a+1)=(b.lc d).map λg=>(gd b l a).map g++[g f]:=(by grind [ahv,Jz,hL]);have A:(hL b l d (a+1)).length=(hL b l d a).length:=(by grind [cj,hL]);have a3:(hL b l d a).length=(b.lc d).length:=(by grind);refine bS (b.lc d).length (λc j=>j=((c:Z),t,u,v,(p,q,s,(hL b l d (a+1)).take c++(hL b l d a).drop c,()),())/\∀g∈(b.lc d).take c,a8 (g f)≠2047) ⟨ac,ac⟩ ?_ ?_
 ·rintro c _ z ⟨rfl,I⟩;dsimp only;rw[aY (aH (show(c:Z)<ak ((b.lc d).map (· f)) by grind))];have x:al ((b.lc d).map (· f)) (c:Z)=Y ((b.lc d)[c] f):=by
   grind [fg,bR]
  have J:=b6 z;refine bz x (bz (xQ (Ny b d _ J f)) ?_);dsimp only;by_cases j:a8 ((b.lc d)[c] f)=2047
  ·rw[aY (by grind)];grind [bu]
  rw[a1 (by grind)];have a4:((hL b l d (a+1)).take c++(hL b l d a).drop c).length=(b.lc d).length:=(by grind);have r:=Xf A (k:=c) aa;have B:(hL b l d a)[c]'(by omega)=(gd b l a).map (b.lc d)[c]:=by grind [hL]
  have y:=eT (n:=((hL b l d (a+1)).take c++(hL b l d a).drop c).length) (i:=c) aa;have bx:=EP b l a;refine bz y (bz x ?_);rw[gn r,aC,B];rw[eB (by grind),aC];refine bz y ?_;rw[aY ac,gn r,aC,B,gn r];have L:(hL b l d (a+1))[c]?=Y ((gd b l a).map (b.lc d)[c]++[(b.lc d)[c] f]):=(by grind);have K:=acw A (k:=c) aa L;rw[K,bk aa];refine bu.2 ⟨bn,λg m=>?_⟩;rw[hR,bc z] at m;rcases h8.1 m with m|m
  ·grind
  simp_all
 rintro _ ⟨rfl,I⟩;dsimp only;rw[a1 (aF (show¬((b.lc d).length:Z)<ak ((b.lc d).map (· f)) by grind))];grind [ck,ak8,bu,cB]
def k9 (d:aR) (e a:ahb) (f g:X):bm (bm fZ):=aB a.length λb=>aB a.length λc=>
 if b<f\/(b=f/\c<g) then az (cH (d.s (a.getD b 0) (a.getD c 0)) (c4 (nA (d.gJ e) (d.lc e) (a.getD b 0) (a.getD c 0)))) else az (d.s (a.getD b 0) (a.getD c 0))
theorem D2 (a:ahb) (b:X->h):a.map b=aB a.length λc=>b (a.getD c 0):=by grind [bR,lx,cj,List.ext_getElem,cY]
theorem adG (d:aR) (e a:ahb):k9 d e a 0 0=a.map λb=>a.map λc=>az (d.s b c):=by unfold k9;rw[D2 a (λb=>a.map λc=>az (d.s b c))];simp_all [aw,c9,D2]
theorem adE (d:aR) (b a:ahb) (c:X):k9 d b a c a.length=k9 d b a (c+1) 0:=by unfold k9;refine c9 λg e=>c9 λh f=>?_;grind
theorem adD (a:aR) (c b:ahb):k9 a c b b.length 0=b.map λd=>b.map λe=>az (cH (a.s d e) (c4 (nA (a.gJ c) (a.lc c) d e))):=by unfold k9;rw[D2 b (λd=>b.map λe=>az (cH (a.s d e) (c4 (nA (a.gJ c) (a.lc c) d e))))];refine c9 λg f=>?_;simp_all [au,c9,D2]
theorem adF (d:aR) (e c:ahb) (i:a<c.length) (j:b<c.length):∃f,(k9 d e c a b)[a]?=Y f/\f.length=c.length/\f[b]?=Y (az (d.s (c.getD a 0) (c.getD b 0)))/\(k9 d e c a b).set a (f.set b (az (cH (d.s (c.getD a 0) (c.getD b 0)) (c4 (nA (d.gJ e) (d.lc e) (c.getD a 0) (c.getD b 0))))))=k9 d e c a (b+1):=by
 refine⟨_,ju i,cY _ _,?_,?_⟩
 ·rw[ju j,aw aa]
 unfold k9;rw[hC,hC];refine c9 λk m=>?_;by_cases g:k=a
 ·subst g;rw[gM];refine c9 λl n=>?_;by_cases h:l=b
  ·simp_all [gM,au]
  rw[he _ _ h];grind
 simp_all [he,c9,au,aw]
def Hh (a:aR) (b c:ahb):de×hg×bA×bt:=
 ((
  a5 (gd a b a.rows.length),ay ((a.full:Z)-(b.length:Z)),(gd a b a.rows.length).map (λd=>(gd a b a.rows.length).map λe=>az (cH (a.s d e) (c4 (nA (a.gJ c) (a.lc c) d e)))),()),
  (a5 c,a.gJ c,a5 (gd a b a.rows.length),hL a b c a.rows.length,()),bp,())
theorem abU {a:aR} (N:a.okd) (an:a.rows.length<=1000) {b:ahb} (w:mj a d b):ae (zz (fS a,a5 d,())) λE=>
  (((∀e∈a.lc b,∀i,i<a.rows.length->i∉d->a8 (e (a.rows.getD i 0))≠2047)/\E=Hh a d b)\/((∃e∈a.lc b,∃i,i<a.rows.length/\i∉d/\a8 (e (a.rows.getD i 0))=2047)/\E.2.2.1=bq)):=by
 obtain⟨fp,fn,cv,c1⟩:=w.len;have ao:ak (fS a).1=(a.rows.length:Z):=(by rw[bg];exact b3 _ (fI _));have F:ak (a5 d)=(d.length:Z):=(by rw[bg,fI]);have dl:∀f e:X,a.rows[f]?=Y e->al (fS a).1 (f:Z)=Y (e:Z):=λf e o=>(by rw[fg];show(a.rows.map λ(a:X)=>(a:Z))[f]?=_;grind);have t:∀k f:X,d[k]?=Y f->al (a5 d) (k:Z)=Y (f:Z):=λk f cs=>(by rw[fg];show(d.map λ(a:X)=>(a:Z))[k]?=_;grind);unfold zz;refine bz (ad0 an aa) ?_;dsimp only;have fs:=EP a d a.rows.length;refine bE (P:=λq=>∃p r,q=(p,r,kq a d a.rows.length,(a5 b,([]:aA),a5 (gd a d a.rows.length),bJ d.length ([]:aA),()),())) ?_ ?_
 ·refine bS d.length (λk q=>∃p r,q=((k:Z),p,r,kq a d a.rows.length,(a5 (b.take k),([]:aA),a5 (gd a d a.rows.length),bJ k ([]:aA),()),())) ⟨_,_,bn⟩ ?_ ?_
  ·rintro k _ ds ⟨p,r,rfl⟩;dsimp only;obtain⟨f,e,ax,av,u⟩:=w.get ds;rw[F,aY (aH (aa:(k:Z)<(d.length:Z))),bk aa];refine bz (t k f ax) (bz (dl f e u) ?_);rw[eB (by grind [fI]),bN,eB (by grind),bN];refine bu.2 ⟨p,r,?_⟩;rw[ct,av];simp only[oo,Option.toList];rw[show bJ (k+1) ([]:aA)=bJ k []++[[]] from List.replicate_succ'];rfl
  rintro _ ⟨p,r,rfl⟩;dsimp only;rw[F,a1 (aF (aa:¬(d.length:Z)<(d.length:Z))),ck aa];grind [bu]
 rintro _ ⟨p,r,rfl⟩;dsimp only;obtain⟨z,em,ax,av,u⟩:=w.get cv;have K:∀{f g e C:X},a.rows[f]?=Y e->a.rows[g]?=Y C->∃v,al (fS a).2.2.1 (f:Z)=Y v/\al v (g:Z)=Y (az (a.s e C))/\cL (a.s e C):=λo x=>(by obtain⟨v,O,Q⟩:=w3 o x;exact⟨v,O,Q,N _ (aht o) _ (aht x)⟩);obtain⟨v,O,Q,d1⟩:=K u u;refine bz (t 0 z ax) (bz O (bz (t 0 z ax) (bz Q (bz (EO d1) ?_))));dsimp only;refine bE (P:=λq=>q=(p,r,kq a d a.rows.length,(a5 b,a.gJ b,a5 (gd a d a.rows.length),hL a d b 0,()),())) ?_ ?_
 ·have a4:bJ d.length ([]:aA)=hL a d b 0:=by
   unfold hL gd;rw[<-c1];exact alf.symm
  rw[a4,F];rcases w.jE with⟨f,e,rfl,rfl,y⟩|⟨f,g,e,C,rfl,rfl,y,H⟩
  ·rw[a1 (by rfl)];have:z=f:=(gD ax).symm;subst this;rw[u] at y;cases y;exact bu.2 bn
  have:z=f:=(gD ax).symm;subst this;rw[u] at y;cases y;obtain⟨fz,d2,d3,d4⟩:=K H u;obtain⟨fT,d5,d6,d7⟩:=K H H;rw[aY (by rfl)];refine bz (t 1 g bn) (bz d2 (bz (t 0 z bn) (bz d3 (bz (EO d4) (bz (t 1 g bn) (bz d5 (bz (t 1 g bn) (bz d6 (bz (EO d7) ?_)))))))));rw[eB ac,aC];exact bu.2 bn
 rintro _ rfl;dsimp only;refine bE (P:=λq=>((∀e∈a.lc b,∀i,i<a.rows.length->i∉d->a8 (e (a.rows.getD i 0))≠2047)/\q=.inl (p,r,kq a d a.rows.length,(a5 b,a.gJ b,a5 (gd a d a.rows.length),hL a d b a.rows.length,()),()))\/((∃e∈a.lc b,∃i,i<a.rows.length/\i∉d/\a8 (e (a.rows.getD i 0))=2047)/\∃B A,q=.inr (B,A,bq,()))) ?_ ?_
 ·refine bS a.rows.length (λi q=>q=((i:Z),p,r,kq a d a.rows.length,(a5 b,a.gJ b,a5 (gd a d a.rows.length),hL a d b i,()),())/\∀e∈a.lc b,∀g,g<i->g∉d->a8 (e (a.rows.getD g 0))≠2047) ⟨bn,λe o g co=>absurd co aa⟩ ?_ ?_
  ·rintro i _ D ⟨rfl,bl⟩;dsimp only;rw[ao,aY (aH (aa:(i:Z)<(a.rows.length:Z))),bk aa];obtain⟨E,d8,d9,ft⟩:=Aq (l:=d) aa i;refine bE (P:=λq=>(q=.inl (p,r,kq a d a.rows.length,(a5 b,a.gJ b,a5 (gd a d a.rows.length),hL a d b (i+1),()),())/\∀e∈a.lc b,∀g,g<i+1->g∉d->a8 (e (a.rows.getD g 0))≠2047)\/((∃e∈a.lc b,∃i,i<a.rows.length/\i∉d/\a8 (e (a.rows.getD i 0))=2047)/\∃B A,q=.inr (.inr (.inr (B,A,bq,()))))) ?_ ?_
   ·refine bz d8 ?_;dsimp only;by_cases G:i∈d
    ·obtain⟨g,rfl,_⟩:=d9 G;rw[aY (aH (aa:(g:Z)>=0))];refine bu.2 (.inl ⟨?_,λe o m L ap=>?_⟩)
     ·simp_all [Jy,hL]
     grind
    rw[a1 (aF (show¬E>=0 by grind))];have J:a.rows[i]?=Y (a.rows.getD i 0):=(by simp_all);refine bz (w.adO N J _ rfl) ?_;dsimp only;refine bE (U4 D an G) ?_;rintro _ (⟨bx,rfl⟩|⟨⟨e,o,x⟩,el,ek,rfl⟩)
    ·refine bu.2 (.inl ⟨bn,λe o m L ap=>?_⟩);grind
    exact bu.2 (.inr ⟨⟨e,o,i,D,G,x⟩,el,ek,bn⟩)
   rintro _ (⟨rfl,fl⟩|⟨x,B,A,rfl⟩)
   ·grind [bu]
   grind [bu]
  rintro _ ⟨rfl,bl⟩;dsimp only;rw[ao,a1 (aF (aa:¬(a.rows.length:Z)<(a.rows.length:Z)))];grind [bu]
 rintro _ (⟨bx,rfl⟩|⟨x,B,A,rfl⟩)
 rotate_left
 ·grind [bu]
 dsimp only;have a3:kq a d a.rows.length=(a5 (gd a d a.rows.length),ay ((a.full:Z)-(d.length:Z)),k9 a b (gd a d a.rows.length) 0 0,()):=(by rw[adG];rfl);have ci:=λi m I M J a0=>w.form (q:=(a5 b,a.gJ b,a5 (gd a d a.rows.length),hL a d b a.rows.length,())) (i:=i) (m:=m) (I:=I) (M:=M) (by grind [fI,bg]) rfl rfl J a0;have V:∀e∈gd a d a.rows.length,e∈a.rows:=λe o=>(by unfold gd at o;obtain⟨f,cs,rfl⟩:=ajv.1 o;simp_all);rw[a3];generalize ex:gd a d a.rows.length=c at*;refine bE (P:=λq=>∃h j,q=(h,j,(a5 c,ay ((a.full:Z)-(d.length:Z)),k9 a b c c.length 0,()),(a5 b,a.gJ b,a5 c,hL a d b a.rows.length,()),())) ?_ ?_
 rotate_left
 ·rintro _ ⟨h,j,rfl⟩;simp_all [adD,bu,Hh]
 have eq:∀S:Z×bm (bm fZ)×bt,ak ((a5 c,S):de).1=(c.length:Z):=λS=>(by grind [bg,fI]);refine bS c.length (λi q=>∃h j,q=((i:Z),h,j,(a5 c,ay ((a.full:Z)-(d.length:Z)),k9 a b c i 0,()),(a5 b,a.gJ b,a5 c,hL a d b a.rows.length,()),())) ⟨_,_,bn⟩ ?_ ?_
 rotate_left
 ·rintro _ ⟨h,j,rfl⟩;dsimp only;rw[bg,fI,a1 (aF (aa:¬(c.length:Z)<(c.length:Z)))];grind [bu]
 rintro i _ D ⟨h,j,rfl⟩;dsimp only;rw[bg,fI,aY (aH (aa:(i:Z)<(c.length:Z))),bk aa];refine bE (P:=λq=>∃h j,q=(h,j,(a5 c,ay ((a.full:Z)-(d.length:Z)),k9 a b c i c.length,()),(a5 b,a.gJ b,a5 c,hL a d b a.rows.length,()),())) ?_ ?_
 rotate_left
 ·rintro _ ⟨h,j,rfl⟩;refine bu.2 ⟨h,j,?_⟩;rw[adE]
 refine bS c.length (λm q=>∃h j,q=((m:Z),h,j,(a5 c,ay ((a.full:Z)-(d.length:Z)),k9 a b c i m,()),(a5 b,a.gJ b,a5 c,hL a d b a.rows.length,()),())) ⟨_,_,bn⟩ ?_ ?_
 rotate_left
 ·rintro _ ⟨h,j,rfl⟩;dsimp only;rw[a1 (aF (show¬(c.length:Z)<ak (a5 c) by simp_all))];grind [bu]
 rintro m _ L ⟨h,j,rfl⟩;dsimp only;rw[aY (aH (show(m:Z)<ak (a5 c) by simp_all)),bk aa];obtain⟨v,R,f1,db,f2⟩:=adF a b c D L;have ap:(k9 a b c i m).length=c.length:=cY _ _;have T:c[i]?=Y (c.getD i 0):=(by simp_all);have U:c[m]?=Y (c.getD m 0):=(by simp_all);have ad:=eT (n:=(k9 a b c i m).length) (i:=i) aa;have am:=eT (n:=v.length) (i:=m) aa;have c2:cL (a.s (c.getD i 0) (c.getD m 0)):=N _ (V _ (aht T)) _ (V _ (aht U));have ce:cL (nA (a.gJ b) (a.lc b) (c.getD i 0) (c.getD m 0)):=by
  unfold nA;split
  ·exact kJ _ _
  ·exact kA _ _
  intro f0 d0;cases d0;exact c8 _
 refine bz ad (bz ad ?_);rw[gn R,aC];refine bz am ?_;rw[gn R,gn db,aC];refine bz (ci i m _ _ T U) ?_;refine bz (AA c2 ce) ?_;refine bz am ?_;rw[gn R,gn db];refine bu.2 ⟨h,j,?_⟩;grind
def ji (a:a7):hg:=(a5 a.cD,a.d,a5 a.rows,a.l.map (λb=>a.rows.map b),())
theorem acc (a:ahb):a=(bH a.length).map λb=>a.getD b 0:=by refine vO ac λe c d=>?_;grind
theorem mj.mem {b:aR} (f:mj b l d) (n:b.rows.Nodup) (m:a<b.rows.length):b.rows.getD a 0∈d↔a∈l:=by
 have h:b.rows.getD a 0=b.rows[a]:=(by grind);have p:∀{e c:X},b.rows[e]?=Y c->(b.rows[a]=c↔a=e):=λ{e c} k=>(by grind [aiA,ahT]);rw[h];rcases f.jE with⟨e,c,rfl,rfl,g⟩|⟨e,o,c,i,rfl,rfl,g,j⟩
 ·grind
 grind
def mj.rest {a:aR} (e:mj a l d) (f:a.rows.Nodup):gd a l a.rows.length=a.rows.filter λg=>br (g∉d):=by
 conv=>rhs;rw[acc a.rows]
 unfold gd;rw[List.filter_map];congr 1;refine pA λc b=>?_;have b:=h9.1 b;show br (c∉l)=br (a.rows.getD c 0∉d);rw[cu,e.mem f b]
theorem abT {a:aR} (w:a.okd) (s:a.rows.length<=1000) (k:a.rows.Nodup) (f:mj a l d) (y:a.full<=a.rows.length) (z:l.length<=a.full):ae (zz (fS a,a5 l,())) λn=>((a.eL d).fin/\n=(fS (a.elim d),ji (a.eL d),bp,()))\/(¬(a.eL d).fin/\n.2.2.1=bq):=by
 have t:=f.rest k;have q:(a.eL d).fin↔∀c∈a.lc d,∀b,b<a.rows.length->b∉l->a8 (c (a.rows.getD b 0))≠2047:=by
  constructor
  ·intro j c h b e o;refine j c h _ (hx.2 ⟨?_,ahg (mt (f.mem k e).1 o)⟩);grind
  intro j c h b e;have e:b∈a.rows.filter λb=>br (b∉d):=e;obtain⟨i,g⟩:=hx.1 e;obtain⟨m,p,rfl⟩:=ho.1 i;have r:a.rows.getD m 0=a.rows[m]:=(by grind);have g:=aiP g;rw[<-r] at g|-;exact j c h m p (mt (f.mem k p).2 g)
 refine(abU w s f).mono λn u=>?_;rcases u with⟨i,rfl⟩|⟨⟨c,h,b,e,o,x⟩,g⟩
 ·refine .inl ⟨q.2 i,?_⟩;have v:ay ((a.full:Z)-(l.length:Z))=((a.full-d.length:X):Z):=by
   have:=f.len.1;grind [cK]
  unfold Hh;rw[v];unfold hL;rw[t];rfl
 grind
def lf (a b:X->Rat):X->Rat
 |0=>0
 |n+1=>lf a b n+a n*b n
def m8 (c:X) (b:ahb):ahb:=b.filter λa=>br (a≠c)
def Xa:a∈m8 b d↔a∈d/\a≠b:=by simp[m8]
def XH (b:d.Nodup):(m8 a d).Nodup:=b.sublist tG
def ad1 (c:a∉d):m8 a d=d:=mh.2 λf e=>ahg λb=>c (b▸e)
def Ro {b:X}:∀{a:ahb},a.Nodup->b∈a->(m8 b a).length+1=a.length
 |[],_,d=>by simp at d
 |i::a,e,d=>by
  rw[jZ] at e;by_cases c:i=b
  ·subst c;have:m8 i (i::a)=m8 i a:=(by simp[m8]);rw[this,ad1 e.1,jc]
  have:m8 b (i::a)=i::m8 b a:=(by simp[m8,c]);rw[this,jc,jc,Ro e.2 (by simpa[Ne.symm c] using d)]
theorem M1 {e:X->Z} {b:X}:∀{d:ahb} {a:Z×ag7},a.2≠Y b->(e3 e b d a).2≠Y b
 |[],_,c=>c
 |i::d,a,c=>by rw[e3];refine M1 ?_;grind
def tx (c b:ahb):Prop:=b=[]\/(∃a,b=[a]/\a∈c)\/∃a d,b=[a,d]/\a∈c/\d∈c/\a≠d
theorem F8 {c:aR}:∀{g d:ahb},(∀p∈g,p∈c.rows.take c.full)->c.gF g=Y d->tx (c.rows.take c.full) d
 |[],d,_,b=>by rw[aR.gF] at b;cases b;exact .inl bn
 |p::g,d,h,b=>by
  have f:=h p ac;rw[aR.gF] at b;split at b
  ·cases b
  split at b
  ·cases b;exact .inr (.inl ⟨p,bn,f⟩)
  split at b
  ·cases b;exact .inr (.inl ⟨p,bn,f⟩)
  rename_i i k;split at b
  ·exact F8 (λl m=>h l (by grind)) b
  rename_i e;have e:=Classical.not_not.1 e;split at b
  ·cases b
  split at b
  ·cases b;exact .inr (.inl ⟨p,bn,f⟩)
  split at b
  ·cases b;exact .inr (.inl ⟨i,bn,e⟩)
  cases b;refine .inr (.inr ⟨p,i,bn,f,e,λj=>?_⟩);subst j;exact M1 (a:=(0,bo)) ac k
theorem ads (c:b∈d) (e:j∈d) (g:b≠j):2<=d.length:=by
 match d,c,e with
 |[a],c,e=>
  grind
 |a::f::d,_,_=>simp
theorem qu.use {a:aR} (p:qu a (a.rows.take a.full) x) (r:a.full<=a.rows.length):(x=([],bq,())/\a.choose=bo)\/(x=([],bp,())/\a.choose=Y [])\/∃d i,x=(a5 d,bp,())/\mj a d i/\d.length<=a.full/\0<d.length/\a.choose=Y i:=by
 rcases p with⟨f,j⟩|⟨d,f,j,g⟩
 ·exact .inl ⟨f,j⟩
 have s:∀c∈d,a.rows[c]?=Y (a.rows.getD c 0):=λc q=>(by grind);have v:(a.rows.take a.full).length=a.full:=(by grind);rcases F8 (λe h=>h) g with b|⟨e,b,h⟩|⟨e,m,b,h,u,t⟩
 ·rw[b] at g;have:d=[]:=List.map_eq_nil_iff.1 b;subst this;exact .inr (.inl ⟨f,g⟩)
 ·obtain⟨c,rfl,q⟩:=List.map_eq_singleton_iff.1 b;refine .inr (.inr ⟨[c],[e],f,⟨.inl ⟨c,e,bn,bn,?_⟩⟩,?_,ac,by rw[<-b];exact g⟩)
  ·grind
  grind
 match d,b with
 |[c,l],b=>
  simp only[h7,aiq,hP,b8] at b;obtain⟨o,n⟩:=b;have k:=g;simp only[h7,aiq,o,n] at k;refine .inr (.inr ⟨[c,l],[e,m],f,⟨.inr ⟨c,l,e,m,bn,bn,?_,?_⟩⟩,?_,ac,k⟩)
  ·grind
  ·grind
  grind [ads,List.length_cons,List.length_nil]
structure kt (x:aR):Prop where
 okd:x.okd
 nd:x.rows.Nodup
 full:x.full<=x.rows.length
theorem Dt:∀{S:ahb},S.Nodup->d.Nodup->(∀a∈d,a∈S)->(S.filter λb=>br (b∉d)).length+d.length=S.length:=by
 induction d with
 |nil=>simp_all
 |cons a d i=>
  intro S e c f;rw[jZ] at c;have k:=i (S:=m8 a S) (XH e) c.2 λj h=>Xa.2 ⟨f j (by grind),λg=>c.1 (g▸h)⟩;have l:=Ro e (f a ac);have m:(m8 a S).filter (λb=>br (b∉d))=S.filter λb=>br (b∉a::d):=(by unfold m8;rw[A6];grind);grind
theorem kt.elim {a:aR} (d:kt a) {b:ahb} (h:tx (a.rows.take a.full) b):kt (a.elim b) where
 okd:=λg _ l _=>kA _ _
 nd:=d.nd.sublist tG
 full:=by
  show a.full-b.length<=(a.rows.filter λg=>br (g∉b)).length;have k:∀{c},c∈a.rows.take a.full->c∈a.rows:=λe=>rY e;have f:b.Nodup/\∀c∈b,c∈a.rows:=by
   rcases h with rfl|⟨c,rfl,e⟩|⟨c,m,rfl,e,j,i⟩
   ·grind
   ·grind
   grind
  have:=Dt d.nd f.1 f.2;have:=d.full;omega
theorem xT {b:aR} (e:b.choose=Y d) (f:0<d.length):aR.run (a+1) b=if(b.eL d).fin then(aR.run a (b.elim d)).map (λc=>(c.1,b.eL d::c.2)) else bo:=by grind [aR.run]
theorem JC {b:aR} (c:b.choose=bo):aR.run (a+1) b=bo:=by rw[aR.run,c]
theorem ER {b:aR} (c:b.choose=Y []):aR.run (a+1) b=Y (b,[]):=by rw[aR.run,c]
def BD {a:aR} (b:a.choose=Y d):tx (a.rows.take a.full) d:=F8 (λe c=>c) b
structure R3 (tr:aR) (n:X) (pv0:bm hg) (y:aR) (ps:bm a7) (m:X):Prop where
 w:kt y
 len:y.rows.length<=1000
 lt:y.full<m
 pl:ps.length+y.full<=tr.full
 run:aR.run n tr=(aR.run m y).map λq=>(q.1,ps++q.2)
theorem acf {g:aR} (A:kt g) (L:g.rows.length<=1000) (N:g.full<a) (l:dd) (j:bm de) {pv0:bm hg} (a4:pv0.length<=1000000):ae (loop (σ:=(bA×dd×bm de×bm hg×de×bt)) (ρ:=(bA×dd×bm de×bm hg×de×bt)) (λ(r,u,p,s,m,_)=>
 bif !r then
 (C8 (m,())).bind λ(F,T,_)=>
 bB (α:=(bA×dd×bm de×bm hg×de×bt)) (bif !T then
 Y (bp,u,p,s,m,()) else
 Y (r,u,p,s,m,())) λ(B,v,q,t,n,_)=>
  bif ak F==0 then
 Y (.inr (B,v,q,t,n,())) else
 (zz (n,F,())).bind λ(H,I,U,_)=>
 bB (α:=(bA×dd×bm de×bm hg×de×de×hg×bt)) (bif !U then
 Y (bp,v,q,t,n,H,I,()) else
 Y (B,v,q,t,n,H,I,())) λ(S,ad,R,D,_,am,C,_)=>
 (cG (D.length+([C]).length)).bind λ_=>
 Y (.inl (S,ad,R,(D++[C]),am,())) else
 Y (.inr (r,u,p,s,m,()))) (bq,l,j,pv0,fS g,())) λe=>
  (∃b d,aR.run a g=Y (b,d)/\e=(bq,l,j,pv0++d.map ji,fS b,())/\kt b)\/(aR.run a g=bo/\e.1=bp):=by
 refine ahx (λe=>(∃b d k,e=(bq,l,j,pv0++d.map ji,fS b,())/\R3 g a pv0 b d k)\/(aR.run a g=bo/\e.1=bp)) (λe=>if e.1=bp then 0 else e.2.2.2.2.1.2.1.toNat+1) (.inl ⟨g,[],a,ac,A,L,N,ac,ac⟩) ?_;rintro e (⟨b,d,k,rfl,c⟩|⟨an,x⟩)
 rotate_left
 ·obtain⟨ci,cv,lf,co,c1,_⟩:=e;dsimp only at x;subst x;dsimp only;rw[a1 (by rfl)];grind [bu]
 dsimp only;rw[aY (by rfl)];have a3:=c.lt;have bl:=c.pl;have bx:=A.full;obtain⟨k,rfl⟩:∃Q,k=Q+1:=⟨k-1,aa⟩;refine bE (abA c.w.okd c.len c.w.nd c.w.full) ?_;intro cs O;rcases O.use c.w.full with⟨rfl,h⟩|⟨rfl,h⟩|⟨ce,f,rfl,z,M,a0,h⟩
 ·refine bu.2 (.inr ⟨?_,bn⟩);rw[c.run,JC h];rfl
 ·refine bu.2 (.inl ⟨b,d,?_,bn,c.w⟩);rw[c.run,ER h];simp
 dsimp only;have ap:=z.len;refine bz (y:=(bq,l,j,pv0++d.map ji,fS b,())) (by rfl) ?_;dsimp only;rw[a1 (by rw[gH,aF (by grind [bg,fI])])];refine bE (abT c.w.okd c.len c.w.nd z c.w.full M) ?_;rintro⟨E,G,V,_⟩ (⟨o,i⟩|⟨o,i⟩)
 ·have ao:E=fS (b.elim f):=b3 (·.1) i;have J:G=ji (b.eL f):=b3 (·.2.1) i;have K:V=bp:=b3 (·.2.2.1) i;subst ao J K;dsimp only;refine bz (y:=(bq,l,j,pv0++d.map ji,fS b,fS (b.elim f),ji (b.eL f),())) (by rfl) ?_;dsimp only;have P:=c.w.full;rw[eB (by grind),bN];have av:(b.elim f).full=b.full-f.length:=rfl;refine bu.2 ⟨.inl ⟨b.elim f,d++[b.eL f],k,ac,c.w.elim (BD h),cA (ahF _ _) c.len,aa,by grind,?_⟩,?_⟩
  ·rw[c.run,xT h aa,au o,Option.map_map];congr 1;grind
  show(if bq=bp then 0 else((b.full-f.length:X):Z).toNat+1)<(if bq=bp then 0 else((b.full:X):Z).toNat+1);grind
 dsimp only at i;subst i;dsimp only;refine bz (y:=(bp,l,j,pv0++d.map ji,fS b,E,G,())) (by rfl) ?_;dsimp only;have P:=c.w.full;rw[eB (by grind),bN];refine bu.2 ⟨.inr ⟨?_,bn⟩,?_⟩
 ·rw[c.run,xT h aa,aw o];rfl
 grind
theorem tx.props (b:tx l d):d.Nodup/\∀a∈d,a∈l:=by
 rcases b with rfl|⟨a,rfl,c⟩|⟨a,g,rfl,c,f,e⟩
 ·grind
 ·grind
 grind
def U5 (b:∀f∈d,f∉l):(d.filter λe=>br (e∉l))=d:=
 mh.2 λa c=>ahg (b a c)
theorem kt.Uf {a:aR} (f:kt a) (i:tx (a.rows.take a.full) d):(a.elim d).rows.take (a.elim d).full=((a.rows.take a.full).filter λb=>br (b∉d))/\(a.elim d).rows.drop (a.elim d).full=a.rows.drop a.full:=by obtain⟨l,g⟩:=i.props;have c:=f.nd;rw[<-kw a.full a.rows,jY] at c;have k:=Dt c.1 l g;have j:=f.full;rw[gh,h1 j] at k;have ao:(a.elim d).full=((a.rows.take a.full).filter λb=>br (b∉d)).length:=(by show a.full-d.length=_;omega);have o:(a.elim d).rows=((a.rows.take a.full).filter λb=>br (b∉d))++a.rows.drop a.full:=(by show(a.rows.filter λb=>br (b∉d))=_;have h:(a.rows.drop a.full).filter (λb=>br (b∉d))=a.rows.drop a.full:=U5 λe m n=>c.2.2 e (g e n) e m bn;exact(b3 (ajg λb=>br (b∉d)) (kw a.full a.rows).symm).trans ((pz ..).trans (by rw[h])));grind
theorem aaQ (e:l.Nodup) (c:d.Nodup) (f:∀b∈d,b∈l):(d++l.filter λa=>br (a∉d)).Perm l:=by grind
structure tN (S:ahb) (q:a7):Prop where
 nd:q.rows.Nodup
 sub:∀i∈q.rows,i∈S
 len:q.l.length=q.cD.length
 at1:q.cD.length=1\/q.cD.length=2
 dl:q.d.length=2*q.cD.length-1
 fin:q.fin
def kt.PD {a:aR} (h:kt a) (c:tx (a.rows.take a.full) d) (f:0<d.length) (j:(a.eL d).fin) {S:ahb} (i:∀e∈a.rows,e∈S):tN S (a.eL d) where
 nd:=h.nd.sublist tG
 sub:=λe k=>i e (hx.1 k).1
 len:=by rcases c with rfl|⟨b,rfl,_⟩|⟨b,g,rfl,_⟩<;>rfl
 at1:=by
  rcases c with rfl|⟨b,rfl,_⟩|⟨b,g,rfl,_⟩
  ·cases f
  ·exact .inl bn
  exact .inr bn
 dl:=by
  rcases c with rfl|⟨b,rfl,_⟩|⟨b,g,rfl,_⟩
  ·cases f
  ·rfl
  rfl
 fin:=j
structure FA (x y:aR) (ps:bm a7):Prop where
 w:kt y
 rest:y.rows.drop y.full=x.rows.drop x.full
 perm:(ps.flatMap a7.cD++y.rows.take y.full).Perm (x.rows.take x.full)
 eL:∀q∈ps,tN x.rows q
 sub:∀i∈y.rows,i∈x.rows
 done:y.choose=Y []
theorem Qi:∀{n:X} {a m:aR} {k:bm a7},kt a->a.full<n->aR.run n a=Y (m,k)->FA a m k
 |0,a,m,k,_,v,_=>by omega
 |n+1,a,m,k,g,v,d=>by
  match hc:a.choose with
  |none=>grind [JC]
  |some []=>
   rw[ER hc] at d;cases d;exact⟨g,bn,aju _,λl f=>(by cases f),λb c=>c,hc⟩
  |some (
   j::h)=>
   rw[xT hc ac] at d;split at d
   case isFalse=>cases d
   rename_i u;have i:=BD hc;obtain⟨x,q⟩:=i.props;cases p:aR.run n (a.elim (j::h)) with
   |none=>grind
   |some l=>
    obtain⟨s,y⟩:=l;rw[p] at d;cases d;have z:0<a.full:=(by have:=List.length_pos_of_mem (q j ac);grind);have e:=Qi (g.elim i) (aa:a.full-(h.length+1)<n) p;obtain⟨ao,t⟩:=g.Uf i;have r:∀b∈(a.elim (j::h)).rows,b∈a.rows:=λb c=>(hx.1 c).1;refine⟨e.w,e.rest.trans t,?_,?_,λb c=>r b (e.sub b c),e.done⟩
    ·have o:=e.perm;rw[ao] at o;show((j::h)++y.flatMap a7.cD++s.rows.take s.full).Perm _;rw[jb];exact(ajX _ o).trans (aaQ (g.nd.sublist (aki ..)) x q)
    intro l f;rcases fR.1 f with rfl|f
    ·exact g.PD i ac u λb c=>c
    have:=e.eL l f;exact{this with sub:=λb c=>r b (this.sub b c)}
theorem Tp {c:aR} (i:c.full=c.rows.length):∀{L:ahb},(∀p∈L,p∈c.rows)->c.gF L=Y []->L=[]
 |[],_,_=>rfl
 |p::L,k,d=>by
  exfalso;rw[aR.gF] at d;split at d
  ·cases d
  split at d
  ·cases d
  split at d
  ·cases d
  rename_i f h;have m:f∈c.rows.take c.full:=by
   rw[i,hS];have:∀{l:ahb} {a:Z×ag7},(∀b,a.2=Y b->b∈c.rows)->(∀b∈l,b∈c.rows)->∀b,(e3 (λb=>c.av b p) p l a).2=Y b->b∈c.rows:=by
    intro l
    induction l with
    |nil=>intro a g _ b e;exact g b e
    |cons j l n=>
     grind [e3]
   exact this (l:=c.rows) (a:=(0,bo)) ac (λb e=>e) f h
  grind
theorem FA.whole {b a:aR} {h:bm a7} (c:FA b a h) (j:kt b) (g:b.full=b.rows.length):a.rows=[]/\a.full=0:=by have d:a.rows.drop a.full=[]:=(by rw[c.rest,g,List.drop_length]);have e:a.full=a.rows.length:=(by have:=List.drop_eq_nil_iff.1 d;have:=c.w.full;omega);have i:=Tp e (L:=a.rows.take a.full) (λk f=>rY f) c.done;grind
theorem VX (j:f.length<=1000000) (g:f[a]?=Y c) (k:∀b,b<a->f[b]?≠Y c):zb (f,c,())=Y ((a:Z),()):=by
 obtain⟨l,i⟩:=ahT.1 g;unfold zb;refine bP.1 ?_;dsimp only;refine bE (P:=λb=>b=.inr ((a:Z),())) ?_ (by grind [bu]);refine bS (a+1) (λd h=>d<=a/\h=((d:Z),())) ⟨Nat.zero_le _,bn⟩ ?_ ?_
 ·rintro d _ m ⟨n,rfl⟩;dsimp only;rw[aY (aH (show(d:Z)<ak f by grind)),bk aa];refine bz (y:=f[d]'(by omega)) (eY aa) ?_
  rw[gH,cQ];refine ahH (λe=>?_) (λe=>?_)
  ·refine bu.2 ?_;rcases cS d a with b|b
   ·grind
   grind
  grind [bu,cl]
 omega
section
def fU (l:bm dc) (t:X):X:=be l (t+1)-be l t
def hF (l:bm dc) (t:X):X:=(gR l (t:Z)).length
def jB (l:bm dc) (t a:X):X:=((gR l (t:Z)).getD a 0).toNat
def gu (l:bm dc) (t:X):Z:=((l[t]?).map λ(a:dc)=>a.2.2.2.1).getD 0
def DN (l:bm dc) (t b:X):Prop:=∃a,fU l t<=a/\a<hF l t/\jB l t a=b
structure ix (n:X) (l:bm dc) (t:X):Prop where
 lt:t<l.length
 g:l[t]?=Y ((be l t:Z),(be l (t+1):Z),gR l (t:Z),gu l t,())
 BB:be l t<be l (t+1)
 ws:be l (t+1)<=n
 Oq:fU l t<=hF l t
 Bc:hF l t<=n
 get:∀i,i<hF l t->(gR l (t:Z))[i]?=Y ((jB l t i:X):Z)
 ro:∀i,i<fU l t->jB l t i=be l t+i
 EE:∀i,fU l t<=i->i<hF l t->be l (t+1)<=jB l t i
 AF:∀i,i<hF l t->jB l t i<n
 abv:∀i j,i<j->j<hF l t->jB l t i<jB l t j
theorem ix.of {G:ew} {l:bm dc} {n t:X} (k:hO G l) (z:G.length=n) (c:t<l.length):ix n l t:=by
 obtain⟨j,m,A,_⟩:=k;obtain⟨v,w,h,x⟩:=(j.1 t c).at c;have e:=m t c;have g:gR l (t:Z)=l[t].2.2.1:=td c;have B:=e.asc aa aa;have r:(l[t].2.1-l[t].1).toNat=fU l t:=(by grind [fU]);have q:fU l t<=hF l t:=(by unfold hF;rw[g,<-r];exact e.1);have o:∀a,(b:a<l[t].2.2.1.length)->(a<fU l t->l[t].2.2.1[a]=(be l t:Z)+a)/\(fU l t<=a->(be l (t+1):Z)<=l[t].2.2.1[a]/\l[t].2.2.1[a]<(n:Z)):=λa b=>(by have f:=e.2 a (c8 _) b b;omega);have F:∀a,(b:a<l[t].2.2.1.length)->0<=l[t].2.2.1[a]/\l[t].2.2.1[a]<(n:Z):=λa b=>(by obtain⟨f,i⟩:=o a b;omega);have p:∀a,a<hF l t->(gR l (t:Z))[a]?=Y ((jB l t a:X):Z):=λa b=>(by grind [bR,jB,hF]);have H:∀a,(b:a<l[t].2.2.1.length)->((jB l t a:X):Z)=l[t].2.2.1[a]:=λa b=>(by grind [ah0,bR,hF]);have E:∀a,a<hF l t->a<l[t].2.2.1.length:=λa b=>(by grind);have s:∀a d,a<d->d<hF l t->jB l t a<jB l t d:=λa d C D=>(by grind [ahh]);have u:∀a,a<hF l t->jB l t a<n:=λa b=>(by grind);refine⟨c,?_,h,aa,q,?_,p,λa b=>?_,λa f i=>?_,u,s⟩
 ·rw[bc c,g];have y:gu l t=l[t].2.2.2.1:=(by simp_all [bc,gu]);grind
 ·have:=IA ((bH (hF l t)).map (jB l t)) n ?_ ?_
  ·simp_all
  ·rw[oM];refine tD ?_ List.pairwise_lt_range;grind
  simp_all
 ·grind
 grind
section
variable {n:X} {l:bm dc} {t:X}
theorem ix.own (a:ix n l t):be l t+fU l t=be l (t+1):=by have:=a.BB;grind [fU]
theorem ix.pos (d:ix n l t) (g:(a:Z)∈gR l (t:Z)):∃b,b<hF l t/\jB l t b=a:=by obtain⟨b,c,f⟩:=ho.1 g;have e:=d.get b c;rw[bc c,f] at e;exact⟨b,c,by grind⟩
end
section
variable {G:ew} {l:bm dc} {n:X}
theorem Tg (d:hO G l) (g:b<=a) (h:a<=l.length):be l b<=be l a:=by
 induction a with
 |zero=>grind
 |succ a e=>
  rcases cS a b with c|c
  ·grind
  have:=e c aa;obtain⟨_,_,f,_⟩:=(d.1.1 a aa).at aa;omega
theorem Ev (b:hO G l) (s:G.length=n) {t:X} (d:t<l.length):(gu l t=-1/\∀e,¬DN l t e)\/∃a:X,gu l t=(a:Z)/\t<a/\a<l.length/\∀e,DN l t e->(e:Z)∈gR l (a:Z):=by
 have f:=ix.of b s d;have k:gu l t=l[t].2.2.2.1:=(by grind [bR,gu]);have v:gR l (t:Z)=l[t].2.2.1:=td d;obtain⟨w,x,y,z⟩:=(b.1.1 t d).at d;have u:(l[t].2.1-l[t].1).toNat=fU l t:=(by grind [fU]);have C:=b.parent d;rcases b.2.2.1 t d with⟨h,c⟩|⟨h,c,A⟩
 ·refine .inl ⟨by rw[k,c],?_⟩;rintro e ⟨j,ax,p,_⟩;grind [hF]
 right;simp only[u] at h c;have i:fU l t<hF l t:=(by grind [hF]);have g:=f.get (fU l t) i;rw[v,bc h] at g;have g:=gD g;rw[g,fA] at c;have E:=f.AF _ i;have D:=f.EE _ (bd _) i;obtain⟨a,m,q,r⟩:=wu b.1 (aa:jB l t (fU l t)<G.length);rw[vJ.last b.1 (⟨m,q,r⟩:vJ l _ a)] at c;refine⟨a,by rw[k,c],?_,m,?_⟩
 ·rcases cS t a with o|o
  ·exact o
  have:=Tg b (aa:a+1<=t+1) aa;omega
 rintro e ⟨j,ax,p,rfl⟩;have B:j<l[t].2.2.1.length:=(by grind [hF]);have F:=f.get j p;grind
end
end
section
def DP:X->X
 |0=>0
 |t+1=>DP t+(DP t+5)
def ez (l:bm dc) (t b:X):ahb:=(bH t).filter λa=>br (gu l a=(b:Z))
section
variable {A:X->X->ag6} {n:X} {l:bm dc} {B:X->X->X->Z} {t:X}
end
end
section
def MK {e:Type} {l:bm h} {b c:h->bm e} (d:∀a∈l,b a=c a):l.flatMap b=l.flatMap c:=by rw[amG,amG,ik d]
def Al:cL (Y 0):=λb a=>by cases a;exact(by decide:aL 0<=131072)
def fF:aR:=⟨[],0,λ_ _=>Y 0⟩
def aR.plus (c d:aR):aR:=⟨c.rows,c.full,λa b=>if a∈d.rows/\b∈d.rows then cH (c.s a b) (d.s a b) else c.s a b⟩
def ko (l:bm dc) (a:X):ahb:=(ahf (fU l a) (hF l a-fU l a)).map (jB l a)
def jh (l:bm dc) (b:X->aR) (a:X):ahb:=((ez l a a).flatMap λc=>(b c).rows.take (b c).full)++ahf (be l a) (fU l a)
def hy (d:X->X->ag6) (l:bm dc) (c a b:X):ag6:=if be l c<=min a b/\min a b<be l (c+1) then d a b else Y 0
def jL (c:X->X->ag6) (l:bm dc) (b:X->aR) (a:X):aR:=⟨jh l b a++ko l a,(jh l b a).length,hy c l a⟩
def gG (c:X->X->ag6) (l:bm dc) (b:X->aR) (a:X):aR:=(ez l a a).foldl (λe d=>e.plus (b d)) (jL c l b a)
def Ar (b:X->aR):∀(d:ahb) (a:aR),(d.foldl (λa c=>a.plus (b c)) a).rows=a.rows/\(d.foldl (λa c=>a.plus (b c)) a).full=a.full
 |[],_=>⟨bn,bn⟩
 |c::d,a=>Ar b d (a.plus (b c))
theorem Ey (e:X->aR):∀(f:ahb) (a:aR),(∀b d,cL (a.s b d))->∀b d,cL ((f.foldl (λa c=>a.plus (e c)) a).s b d)
 |[],_,g=>g
 |c::f,a,g=>Ey e f (a.plus (e c)) λb d=>by show cL (if _ then _ else _);grind [kA]
def hX (b:X->X->ag6) (l:bm dc):X->bv (bm aR×bm a7)
 |0=>Y ([],[])
 |t+1=>(hX b l t).bind λa=>(aR.run ((gG b l (λc=>a.1.getD c fF) t).full+1) (gG b l (λc=>a.1.getD c fF) t)).map λd=>(a.1++[d.1],a.2++d.2)
def pN (l:bm dc) (b:X):ahb:=(bH b).filter λa=>br (gu l a=-1\/(b:Z)<=gu l a)
def kk (a:X->aR) (b:X):ahb:=(a b).rows.take (a b).full
structure jX (l:bm dc) (n t:X) (L:X->aR) (ps:bm a7):Prop where
 w:∀c,c<t->kt (L c)
 rest:∀c,c<t->(L c).rows.drop (L c).full=ko l c
 perm:(ps.flatMap a7.cD++(pN l t).flatMap (kk L)).Perm (bH (be l t))
 root:∀c,c<t->gu l c=-1->(L c).rows=[]/\(L c).full=0
 eL:∀q∈ps,tN (bH n) q
 AF:∀c,c<t->∀i∈(L c).rows,i<n
section
variable {G:ew} {l:bm dc} {n:X}
theorem xz:b∈ko l a↔DN l a b:=by unfold ko DN;grind
theorem uX:a∈ez l j b↔a<j/\gu l a=(b:Z):=by unfold ez;grind
theorem Su (a:X):(ez l a a++(bH a).filter λb=>br (gu l b=-1\/(a:Z)<gu l b)).Perm (pN l a):=by have e:=List.filter_append_perm (λb=>br (gu l b=(a:Z))) (pN l a);have ao:(pN l a).filter (λb=>br (gu l b=(a:Z)))=ez l a a:=(by unfold pN ez;rw[A6];refine pA λb _=>?_;grind);have d:(pN l a).filter (λc=>!br (gu l c=(a:Z)))=(bH a).filter λb=>br (gu l b=-1\/(a:Z)<gu l b):=(by unfold pN;rw[A6];refine pA λb _=>?_;rw[vF];simp only[cC,tv,aj3,ahD];omega);grind
theorem St (c:gu l a=-1\/(a:Z)<gu l a):pN l (a+1)=((bH a).filter λb=>br (gu l b=-1\/(a:Z)<gu l b))++[a]:=by grind [ahG,ain,ahk,ahg,decide,gu,pN]
def acg (e:ix n l a):(ko l a).Nodup:=by unfold ko ajw;rw[oM];have d:=List.pairwise_lt_range' (s:=fU l a) (n:=hF l a-fU l a);refine(tD ?_ d);intro b c f h g;rw[List.mem_range'_1] at f h;have:=e.abv b c g aa;omega
theorem jX.Bw {b:X->aR} {d:bm a7} (h:jX l n a b d) (f:ix n l a):((d.flatMap a7.cD++(((bH a).filter λc=>br (gu l c=-1\/(a:Z)<gu l c)).flatMap (kk b)))++jh l b a).Perm (bH (be l (a+1))):=by
 have i:=h.perm;have e:=(Su (l:=l) a).flatMap_right (kk b);rw[pB] at e;have g:bH (be l (a+1))=bH (be l a)++ahf (be l a) (fU l a):=(by have:=f.own;rw[A8,A8,<-f.own];have:=List.range'_append (s:=0) (m:=be l a) (n:=fU l a) (step:=1);grind);rw[g];have j:(d.flatMap a7.cD++(((bH a).filter λc=>br (gu l c=-1\/(a:Z)<gu l c)).flatMap (kk b)++(ez l a a).flatMap (kk b))).Perm (bH (be l a)):=
  (ajX _ (List.perm_append_comm.trans e)).trans i
 unfold jh;rw[<-jb];refine List.Perm.append_right _ ?_;rw[jb];exact j
theorem jX.tU {c:X->X->ag6} (w:∀d g,cL (c d g)) {b:X->aR} {r:bm a7} (k:jX l n a b r) (h:ix n l a):kt (gG c l b a):=by
 have i:=k.Bw h;have p:=i.nodup_iff.2 vR;obtain⟨ao,j⟩:=Ar b (ez l a a) (jL c l b a);refine⟨λd _ g _=>Ey b _ _ (λd g=>?_) d g,?_,?_⟩
 ·show cL (if _ then _ else _);split
  ·grind
  exact Al
 ·show((ez l a a).foldl (λf e=>f.plus (b e)) (jL c l b a)).rows.Nodup;rw[ao];refine jY.2 ⟨(jY.1 p).2.1,acg h,λs m t o u=>?_⟩;have v:=h9.1 (i.mem_iff.1 (lm _ m));obtain⟨d,i1,q,x⟩:=xz.1 o;have:=h.EE d i1 q;omega
 show((ez l a a).foldl (λf e=>f.plus (b e)) (jL c l b a)).full<=((ez l a a).foldl (λf e=>f.plus (b e)) (jL c l b a)).rows.length;rw[ao,j];show(jh l b a).length<=(jh l b a++ko l a).length;grind
def wh (c:X->X->ag6) (b:X->aR) (a:X):(gG c l b a).rows=jh l b a++ko l a/\(gG c l b a).full=(jh l b a).length:=Ar b (ez l a a) (jL c l b a)
def jX.wg (f:X->X->ag6) {c:X->aR} {j:bm a7} (h:jX l n b c j) (d:ix n l b) (g:a∈(gG f l c b).rows):a<n:=by
 rw[(wh f c b).1,h8] at g;have:=d.ws;rcases g with e|e
 ·have k:=h9.1 ((h.Bw d).mem_iff.1 (lm _ e));omega
 obtain⟨a,i1,i,m⟩:=xz.1 e;have:=d.AF a i;omega
theorem jX.Bx (b:X->X->ag6) (g:∀f i,cL (b f i)) {c:X->aR} {j:bm a7} (d:jX l n a c j) (e:ix n l a):(gG b l c a).rows.length<=n:=by have:=(d.tU g e).nd.length_le_of_subset (l₂:=bH n) λf h=>h9.2 (d.wg b e h);grind
theorem jX.child (g:X->X->ag6) (k:hO G l) (i:G.length=n) (s:a<l.length) {c:X->aR} {v:bm a7} (q:jX l n a c v) (r:b∈ez l a a) (m:j∈(c b).rows):j∈(gG g l c a).rows:=by
 have h:=ix.of k i s;obtain⟨p,x⟩:=uX.1 r;rw[(wh g c a).1];unfold jh;rw[<-kw (c b).full (c b).rows,h8] at m;rcases m with d|d
 ·grind
 rw[q.rest b p] at d;have d:=xz.1 d;rcases Ev k i (aa:b<l.length) with⟨y,_⟩|⟨o,z,A,B,w⟩
 ·omega
 obtain rfl:o=a:=aa;obtain⟨f,t,u⟩:=h.pos (w j d);rcases cS f (fU l o) with e|e
 ·have:=h.ro f e;grind
 exact lm _ (xz.2 ⟨f,e,t,u⟩)
theorem q8 {h:X->X->ag6} (C:∀k M,cL (h k M)) (y:hO G l) (x:G.length=n):∀{t:X},t<=l.length->∀{o:bm aR} {u:bm a7},hX h l t=Y (o,u)->o.length=t/\jX l n t (λa=>o.getD a fF) u
 |0,_,o,u,e=>by rw[hX] at e;cases e;refine⟨bn,⟨λa g=>by omega,λa g=>by omega,?_,λa g=>by omega,λb A=>(by cases A),λa g=>by omega⟩⟩;show List.Perm [] (bH (be l 0));have:be l 0=0:=rfl;grind
 |t+1,R,o,u,e=>by
  rw[hX] at e;cases D:hX h l t with
  |none=>grind
  |some N=>
   obtain⟨c,S⟩:=N;obtain⟨i1,f⟩:=q8 C y x aa D;have p:=ix.of y x (aa:t<l.length);rw[D] at e;dsimp only[bN] at e;have z:=f.tU C p;generalize s:gG h l (λa=>c.getD a fF) t=m at e;rw[s] at z;cases E:aR.run (m.full+1) m with
   |none=>grind
   |some b=>
    obtain⟨d,T⟩:=b;rw[E] at e;cases e;have j:=Qi z (r1 _) E;have L:=(wh h (λa=>c.getD a fF) t (l:=l));rw[s] at L;have K:m.rows.take m.full=jh l (λa=>c.getD a fF) t:=(by grind);have H:m.rows.drop m.full=ko l t:=(by grind);have q:∀a,a<t->(c++[d]).getD a fF=c.getD a fF:=λa g=>(by rw[mi,mi,qy aa]);have r:(c++[d]).getD t fF=d:=(by grind);have Q:=Ev y x (aa:t<l.length);refine⟨by grind,⟨?_,?_,?_,?_,?_,?_⟩⟩
    ·intro a g;dsimp only;rcases cl a t with b|b
     ·rw[q a b];exact f.w a b
     obtain rfl:a=t:=aa;rw[r];exact j.w
    ·intro a g;dsimp only;rcases cl a t with b|b
     ·rw[q a b];exact f.rest a b
     obtain rfl:a=t:=aa;rw[r,j.rest,H]
    ·rw[St (by grind),pB,pB];have ao:((bH t).filter λa=>br (gu l a=-1\/(t:Z)<gu l a)).flatMap (kk λa=>(c++[d]).getD a fF)=((bH t).filter λa=>br (gu l a=-1\/(t:Z)<gu l a)).flatMap (kk λa=>c.getD a fF):=by
      refine MK λa g=>?_;show((c++[d]).getD a fF).rows.take ((c++[d]).getD a fF).full=(c.getD a fF).rows.take (c.getD a fF).full;grind
     have F:List.flatMap (kk λa=>(c++[d]).getD a fF) [t]=d.rows.take d.full:=(by show(((c++[d]).getD t fF).rows.take ((c++[d]).getD t fF).full)++[]=_;grind);rw[ao,F];have I:=j.perm;rw[K] at I;refine List.Perm.trans ?_ (f.Bw p);grind
    ·intro a g J;dsimp only;rcases cl a t with b|b
     ·rw[q a b];exact f.root a b J
     obtain rfl:a=t:=aa;rw[r];refine j.whole z ?_;have:ko l a=[]:=List.eq_nil_iff_forall_not_mem.2 λO P=>(by grind [xz]);grind
    ·intro b A;rcases h8.1 A with v|v
     ·exact f.eL b v
     have B:=j.eL b v;exact{B with sub:=λk i=>h9.2 (f.wg h p (by rw[s];exact B.sub k i))}
    intro a g k i;dsimp only at i;rcases cl a t with b|b
    ·rw[q a b] at i;exact f.AF a b k i
    obtain rfl:a=t:=aa;rw[r] at i;exact f.wg h p (by rw[s];exact j.sub k i)
theorem jX.fl {b:X->aR} {h:bm a7} (d:jX l n a b h) {c:X} (e:c<a):(b c).full<=n/\(b c).rows.length<=n:=by have i:=(d.w c e).nd.length_le_of_subset (l₂:=bH n) λg f=>h9.2 (d.AF c e g f);have j:=(d.w c e).full;grind
def jX.all {b:X->aR} {h:bm a7} (g:hO G l) (f:G.length=n) (d:jX l n l.length b h):(h.flatMap a7.cD).Perm (bH n):=by
 have e:=d.perm;have j:(pN l l.length).flatMap (kk b)=[]:=List.flatMap_eq_nil_iff.2 λi k=>by
  obtain⟨a,c⟩:=hx.1 k;have a:=h9.1 a;have c:=aiP c;rcases Ev g f a with⟨m,_⟩|⟨o,p,_,q,_⟩
  ·unfold kk;rw[(d.root i a m).1,alo]
  omega
 rw[j,oJ,g.1.2,f] at e;exact e
end
def Dz {G:ew} {l:bm dc} (c:hO G l):l.length<=G.length:=by
 have:∀a,a<=l.length->a<=be l a:=by
  intro a
  induction a with
  |zero=>omega
  |succ a d=>
   intro e;have:=d aa;have:=(ix.of c bn (aa:a<l.length)).BB;omega
 have b:=this l.length (bd _);rw[c.1.2] at b;exact b
end
theorem Mb (b:cL w):BP (az w,c,())=Y (iu w c,()):=by
 unfold BP;refine ah (Hd b) ?_;dsimp only;rw[q4];cases w with
 |none=>rfl
 |some a=>
  have d:=b a bn;have i:=kn d;have f:=kN d;refine ah (o4 b) ?_;dsimp only;show(bif gA a==0 then _ else _)=_;rw[jD];unfold iu m5;by_cases e:a=0
  ·grind
  rw[aF e];simp only;rw[aw e,bO];have h:0<(cE a).natAbs:=(by grind [jA]);refine ah (y:=(o5 (br (a<0)) (cE a).natAbs (eQ a) bq,())) ?_ ?_
  ·unfold Gi;rw[hB];refine ah (Bo (jO aa)) ?_;simp_all [aw,xD,o5,eI]
  have g:eI a=eQ a:=(by unfold eI;omega);rw[g] at f;exact ah (P7 aa h aa aa) rfl
theorem Sz (a:eJ c):Bq bC c 9223372036854775808=c %9223372036854775808:=by obtain⟨b,rfl⟩:=gg a.1;have d:b<18446744073709551616:=(by have:=a.2;omega);unfold Bq;rw[show bC.bits=64 from rfl,alm,tX d,(ab:(~~~ch 64 9223372036854775808).toNat=2^63-1),ak2];grind [tq,aiI]
theorem MB (a:eJ c) (e:a8 c≠2047):eJ (c %9223372036854775808)/\a2 (c %9223372036854775808)=Bn (a2 c):=by have g:=a.1;have h:=a.2;have ao:a8 (c %9223372036854775808)=a8 c:=(by grind [a8]);have f:fb (c %9223372036854775808)=fb c:=(by grind [fb]);refine⟨⟨aa,aa⟩,?_⟩;rw[l5 aa,l5 e];have b:h3 (c %9223372036854775808)=h3 c:=(by grind [h3]);have i:=sG c;have d:gx (c %9223372036854775808)=((gx c).natAbs:Z):=(by unfold gx;omega);rw[b,d];show Y _=Y (((gx c*2^(h3 c+65536).toNat).natAbs:X):Z);grind [iZ]
theorem Ve (b:eJ c) (f:a8 c≠2047):BQ ([c],())=Y (bq,()):=by
 unfold BQ;refine bP.1 ?_;dsimp only;refine bE (P:=λd=>d=.inl ()) ?_ (by grind [bu]);refine bS 1 (λa e=>e=((a:Z),())) rfl ?_ ?_
 ·rintro a _ g rfl;obtain rfl:a=0:=aa;dsimp only;rw[aY (by rfl)];refine bz (y:=c) rfl (bz (Wi b) ?_);dsimp only;rw[a1 (by
   rw[gH];refine aF ?_;unfold jy;omega)]
  exact bu.2 bn
 rintro _ rfl;dsimp only;rw[a1 (by rfl)];grind [bu]
theorem Hs (b:eJ c) (a:a8 c≠2047):wB (c,())=Y (c %9223372036854775808,()):=by simp_all [bO,Sz,ah,Ve,wB]
section
def fe (R:ahb) (lf:ag8) (b:X):ahb:=((bH b).filter λa=>lf.getD a bq).map λa=>R.getD a 0
theorem xm (R:ahb) (lf:ag8) (a:X):fe R lf (a+1)=if lf.getD a bq=bp then fe R lf a++[R.getD a 0] else fe R lf a:=by unfold fe;rw[iM,pz,nY,akj];grind
structure i9 (R:ahb) (full:X) (lf:ag8) (M:bm (bm fZ)) (x:aR):Prop where
 ll:lf.length=R.length
 nd:R.Nodup
 sm:R.length<=1000
 fl:full<=R.length
 rows:x.rows=fe R lf R.length
 full:x.full=(fe R lf full).length
 okd:x.okd
 ent:∀i j,i<R.length->j<R.length->lf.getD i bq=bp->lf.getD j bq=bp->∃row,M[i]?=Y row/\row[j]?=Y (az (x.s (R.getD i 0) (R.getD j 0)))
section
variable {R:ahb} {full:X} {lf:ag8} {M:bm (bm fZ)} {x:aR}
def cF (R:ahb) (full:X) (lf:ag8) (M:bm (bm fZ)):c0:=(a5 R,(full:Z),lf,M,())
theorem Ib (d:a<b) (c:lf.getD a bq=bp):R.getD a 0∈fe R lf b:=eP.2 ⟨a,hx.2 ⟨h9.2 d,c⟩,bn⟩
theorem i9.mem (b:i9 R full lf M x) (c:a<R.length) (d:lf.getD a bq=bp):R.getD a 0∈x.rows:=by rw[b.rows];grind [Ib]
theorem i9.value (c:i9 R full lf M x) (d:a<R.length) (e:b<R.length) (f:lf.getD a bq=bp) (g:lf.getD b bq=bp):sn (Y (cF R full lf M),(a:Z),(b:Z),())=Y (x.ba (R.getD a 0) (R.getD b 0),()):=by
 obtain⟨i,h,j⟩:=c.ent a b d e f g;unfold sn;refine ah (y:=cF R full lf M) rfl (ah (y:=i) ?_ (ah (y:=az (x.s (R.getD a 0) (R.getD b 0))) ?_ (ah (Mb (c.okd _ (c.mem d f) _ (c.mem e g))) rfl)))
 ·rw[fg];exact h
 grind [fg]
theorem i9.inj (a:i9 R full lf M x) {i j:X} (b:i<R.length) (c:j<R.length):R.getD i 0=R.getD j 0↔i=j:=by rw[mi,bc b,mi,bc c];exact qB a.nd
theorem Tt:br (fE c k>0)=br (k<c):=by rw[cu];grind [absurd,fE]
theorem i9.M3 (i:i9 R full lf M x) (H:a<R.length) (T:lf.getD a bq=bp):ae (y8 (Y (cF R full lf M),(a:Z),())) λr=>
  (x.fin (R.getD a 0)/\∃e:ag7,r=(az (Y (x.fc (R.getD a 0)).1),pP e,0,())/\(∀c,e=Y c->c<R.length/\lf.getD c bq=bp/\(x.fc (R.getD a 0)).2=Y (R.getD c 0))/\(e=bo->(x.fc (R.getD a 0)).2=bo))\/
  (¬x.fin (R.getD a 0)/\r.2.2.1=233):=by
 obtain⟨s,o⟩:∃s:X,s=65536:=⟨_,bn⟩;have F:ak (cF R full lf M).1=(R.length:Z):=(by rw[bg];exact b3 _ (fI _));have ap:=i.sm;have an:=i.ll;generalize B:R.getD a 0=d;unfold y8;refine bz (zC ab ab) ?_;have J:jx 0=Y 0:=rfl;rw[J];refine bz (y:=cF R full lf M) rfl ?_;refine bE (P:=λf=>(x.fin d/\∃(e:ag7) (g:cU),f=.inl (pP e,g,az (Y (x.fc d).1),())/\(∀c,e=Y c->c<R.length/\lf.getD c bq=bp/\(x.fc d).2=Y (R.getD c 0))/\(e=bo->(x.fc d).2=bo))\/(¬x.fin d/\∃j t,f=.inr (j,t,233,()))) ?_ ?_
 rotate_left
 ·grind [bu]
 refine bS R.length (λb f=>(∀h∈fe R lf b,a8 (x.ba h d)≠2047)/\∃(e:ag7) (g:cU),f=(pP e,(b:Z),g,az (Y (e3 (λc=>x.av c d) d (fe R lf b) (0,bo)).1),())/\(∀c,e=Y c->c<R.length/\lf.getD c bq=bp/\(e3 (λc=>x.av c d) d (fe R lf b) (0,bo)).2=Y (R.getD c 0))/\(e=bo->(e3 (λc=>x.av c d) d (fe R lf b) (0,bo)).2=bo)) ?_ ?_ ?_
 ·refine⟨by simp[fe],bo,_,bn,?_,λ_=>rfl⟩;grind
 rotate_left
 ·rintro _ ⟨q,e,g,rfl,n,k⟩;dsimp only;rw[F,a1 (aF (aa:¬(R.length:Z)<(R.length:Z)))];rw[<-i.rows] at q n k|-;exact bu.2 (.inl ⟨q,e,g,bn,n,k⟩)
 rintro b _ u ⟨q,e,g,rfl,n,k⟩;dsimp only;rw[F,aY (aH (aa:(b:Z)<(R.length:Z))),bk aa];have N:al (cF R full lf M).2.2.1 (b:Z)=Y (lf.getD b bq):=(by rw[fg];show lf[b]?=_;grind);have C:cR s 1074 1024 1 (Y (e3 (λc=>x.av c d) d (fe R lf b) (0,bo)).1):=HJ (λh E=>x.sc o (q h E)) cR.zero;rw[xm];refine bE (P:=λf=>((∀h∈(if lf.getD b bq=bp then fe R lf b++[R.getD b 0] else fe R lf b),a8 (x.ba h d)≠2047)/\∃(e:ag7) (g:cU),f=.inl (pP e,g,az (Y (e3 (λc=>x.av c d) d (if lf.getD b bq=bp then fe R lf b++[R.getD b 0] else fe R lf b) (0,bo)).1),())/\(∀c,e=Y c->c<R.length/\lf.getD c bq=bp/\(e3 (λc=>x.av c d) d (if lf.getD b bq=bp then fe R lf b++[R.getD b 0] else fe R lf b) (0,bo)).2=Y (R.getD c 0))/\(e=bo->(e3 (λc=>x.av c d) d (if lf.getD b bq=bp then fe R lf b++[R.getD b 0] else fe R lf b) (0,bo)).2=bo))\/(¬x.fin d/\∃j t,f=.inr (.inr (.inr (j,t,233,()))))) ?_ ?_
 rotate_left
 ·grind [bu]
 refine bz (y:=cF R full lf M) rfl (bz N ?_);cases A:lf.getD b bq with
 |false=>
  rw[aY (by rfl),aw ab];grind [bu]
 |true=>
 rw[a1 (by rfl),b9 bn];have I:=i.value u H A T;rw[B] at I;have p:=x.k5 (R.getD b 0) d;refine bz I (bz (zU p) ?_);dsimp only;by_cases f:a8 (x.ba (R.getD b 0) d)=2047
 ·rw[aY (by grind)];exact bu.2 (.inr ⟨λS=>S _ (i.mem u A) f,_,_,bn⟩)
 rw[a1 (by grind)];have L:∀h∈fe R lf b++[R.getD b 0],a8 (x.ba h d)≠2047:=λh E=>(by grind);have O:e3 (λc=>x.av c d) d (fe R lf b++[R.getD b 0]) (0,bo)=if R.getD b 0=d then e3 (λc=>x.av c d) d (fe R lf b) (0,bo) else if(e3 (λc=>x.av c d) d (fe R lf b) (0,bo)).2=bo\/(e3 (λc=>x.av c d) d (fe R lf b) (0,bo)).1<x.av (R.getD b 0) d then(x.av (R.getD b 0) d,Y (R.getD b 0)) else e3 (λc=>x.av c d) d (fe R lf b) (0,bo):=by rw[xc,e3,e3]
 rw[O];generalize e3 (λc=>x.av c d) d (fe R lf b) (0,bo)=j at*;obtain⟨l,w⟩:=j;dsimp only at n k C|-;have D:R.getD b 0=d↔b=a:=(by rw[<-B];exact i.inj u H);by_cases z:b=a
 ·rw[aY (by grind),au (D.2 z)];grind [bu]
 rw[a1 (by grind),cf (mt D.1 z)];obtain⟨U,V⟩:=MB p f;have ad:=x.FU f;have K:=x.sc o f;have G:j2 (x.ba (R.getD b 0) d %9223372036854775808,())=Y (az (Y (x.av (R.getD b 0) d)),()):=(by grind [qc]);refine bz (Hs p f) (bz G (bz (L1 (K.lG o ab ab) (C.lG o ab ab)) ?_));dsimp only;have Q:e=bo↔w=bo:=by
  constructor
  ·exact k
  intro am;cases e with
  |none=>rfl
  |some c=>
   grind
 refine bE (P:=λr=>r=(br (w=bo\/l<x.av (R.getD b 0) d),g,az (Y l),())) ?_ ?_
 ·rw[Tt];by_cases m:l<x.av (R.getD b 0) d
  ·simp_all [aH,bu,a1]
  rw[aY (by grind)];refine bu.2 ?_;have:br (pP e<0)=br (w=bo\/l<x.av (R.getD b 0) d):=by
   rw[cu];cases e with
   |none=>exact⟨λ_=>.inl (Q.1 bn),λ_=>by decide⟩
   |some c=>
    constructor
    ·intro v;have:((c:X):Z)<0:=v;omega
    grind
  grind
 rintro _ rfl;dsimp only;rw[cQ];refine ahH (λm=>?_) (λm=>?_)
 ·rw[au m];refine bz (Hs p f) (bz G ?_);refine bu.2 (.inl ⟨L,Y b,g,bn,?_,λv=>by cases v⟩);grind
 rw[aw m];grind [bu]
end
end
section
theorem H4 (d:cL (Y c)) (e:cL (Y k)) (a:fO (64*c)) (b:fO (41*k)):wJ (az (Y c),az (Y k),())=Y (br (41*k<=64*c),()):=by unfold wJ;refine ah (zC ab ab) (ah (pZ (xf _) d) (ah (zC ab ab) (ah (pZ (xf _) e) ?_)));rw[Ea ab a,Ea ab b];refine ah (L1 a b) ?_;dsimp only;have:br (fE (64*c) (41*k)>=0)=br (41*k<=64*c):=(by rw[cu];grind [absurd,fE]);grind
section
variable {R:ahb} {full:X} {lf:ag8} {M:bm (bm fZ)} {x:aR}
def mG (R:ahb) (lf:ag8) (c b:X):ahb:=((ahf c b).filter λa=>lf.getD a bq).map λa=>R.getD a 0
theorem acx (R:ahb) (lf:ag8) (a b:X):mG R lf a (b+1)=if lf.getD a bq=bp then R.getD a 0::mG R lf (a+1) b else mG R lf (a+1) b:=by grind [List.range'_succ,mG]
theorem H9 (R:ahb) (lf:ag8) (a:X):∀d,∃b,fe R lf (a+d)=fe R lf a++b
 |0=>⟨[],ac⟩
 |d+1=>by obtain⟨b,c⟩:=H9 R lf a d;grind [ahP,aiJ,xm]
def i9.take (a:i9 R full lf M x):x.rows.take x.full=fe R lf full:=by have:=a.fl;obtain⟨c,b⟩:=H9 R lf full (R.length-full);rw[a.rows,a.full,(aa:R.length=full+(R.length-full)),b,List.take_left'];rfl
theorem i9.NZ (a:i9 R full lf M x) {k:X} (e:k<R.length) (f:lf.getD k bq=bp):R.getD k 0∈x.rows.take x.full↔k<full:=by
 have:=a.fl;rw[a.take];constructor
 ·intro c;unfold fe at c;obtain⟨g,b,d⟩:=eP.1 c;have b:=h9.1 (hx.1 b).1;have:=(a.inj aa e).1 d;omega
 grind [Ib]
def i9.L6 (h:i9 R full lf M x) (d:a<R.length) (e:lf.getD a bq=bp) (b:a8 (x.ba (R.getD a 0) (R.getD a 0))≠2047):y5 (Y (cF R full lf M),(a:Z),())=Y (az (Y (x.av (R.getD a 0) (R.getD a 0))),()):=by have c:=x.k5 (R.getD a 0) (R.getD a 0);obtain⟨f,g⟩:=MB c b;unfold y5;refine ah (h.value d d e e) (ah (Hs c b) (ah (y:=(az (Y (x.av (R.getD a 0) (R.getD a 0))),())) ?_ bn));rw[qc f,g,x.FU b]
def Fl (x:aR) (R:ahb) (full:X) (lf:ag8) (c:ahb) (d:ahc×Z×bt):Prop:=(d.2.1=233/\x.gF c=bo)\/∃b:ahb,d=(a5 b,0,())/\(∀a∈b,a<full/\lf.getD a bq=bp)/\x.gF c=Y (b.map λa=>R.getD a 0)
theorem i9.choose (e:i9 R full lf M x):ae (Cd (Y (cF R full lf M),())) λk=>Fl x R full lf (x.rows.take x.full) k:=by
 obtain⟨D,c⟩:∃D:X,D=65536:=⟨_,bn⟩;have d2:=e.sm;have ds:=e.fl;have d0:=e.ll;rw[e.take];have a0:fe R lf full=mG R lf 0 full:=(by unfold fe mG;rw[A8]);rw[a0];unfold Cd;refine bz (y:=cF R full lf M) rfl ?_;refine bE (P:=λd=>(d=.inl ()/\x.gF (mG R lf 0 full)=Y [])\/∃k,d=.inr k/\Fl x R full lf (mG R lf 0 full) k) ?_ ?_
 rotate_left
 ·rintro _ (⟨rfl,e⟩|⟨k,rfl,e⟩)
  ·exact bu.2 (.inr ⟨[],bn,ac,e⟩)
  grind [bu]
 refine bS full (λb cs=>cs=((b:Z),())/\x.gF (mG R lf 0 full)=x.gF (mG R lf b (full-b))) ⟨bn,bn⟩ ?_ ?_
 rotate_left
 ·rintro _ ⟨rfl,l⟩;dsimp only;rw[a1 (aF (show¬(full:Z)<(cF R full lf M).2.1 from aln _))];refine bu.2 (.inl ⟨bn,?_⟩);rw[l,Nat.sub_self];rfl
 rintro b _ d1 ⟨rfl,l⟩;dsimp only;have z:b<R.length:=aa;rw[aY (aH (show(b:Z)<(cF R full lf M).2.1 by show(b:Z)<(full:Z);omega)),bk aa];rw[(aa:full-b=full-(b+1)+1),acx] at l;refine bE (P:=λd=>(d=.inl ()/\x.gF (mG R lf 0 full)=x.gF (mG R lf (b+1) (full-(b+1))))\/∃k,d=.inr (.inr (.inr k))/\Fl x R full lf (mG R lf 0 full) k) ?_ ?_
 rotate_left
 ·grind [bu]
 have bl:al (cF R full lf M).2.2.1 (b:Z)=Y (lf.getD b bq):=(by rw[fg];show lf[b]?=_;grind);refine bz (y:=cF R full lf M) rfl (bz bl ?_);cases o:lf.getD b bq with
 |false=>
  rw[o,aw ab] at l;rw[aY (by rfl)];grind [bu]
 |true=>
 rw[o,au bn] at l;rw[a1 (by rfl)];refine bE (e.M3 z o) ?_;have G:=e.mem z o;generalize F:R.getD b 0=a at*;rintro⟨am,an,ap,_⟩ (⟨j,cv,i,ci,co⟩|⟨j,i⟩)
 rotate_left
 ·dsimp only at i;subst i;dsimp only;rw[aY (by rfl)];refine bu.2 (.inr ⟨_,bn,.inl ⟨bn,?_⟩⟩);rw[l,aR.gF,b9 j]
 cases i;dsimp only;rw[a1 (by rfl)];have I:=e.L6 z o (by rw[F];exact j a G);rw[F] at I;refine bz I ?_;dsimp only;have t:=x.DH c j;have w:=x.sc c (j a G);have u:cL (Y (x.fc a).1):=λp g=>(by cases g;exact t.lG c ab ab);have K:cL (Y (x.av a a)):=λp g=>(by cases g;exact w.lG c ab ab);refine bE (P:=λd=>d=if(x.fc a).1=0\/41*(x.fc a).1<=64*x.av a a then .inr (.inr (.inr (.inr ([(b:Z)],0,())))) else .inl (az (Y (x.fc a).1),az (Y (x.av a a)),())) ?_ ?_
 ·refine bE (P:=λd=>d=(br ((x.fc a).1=0\/41*(x.fc a).1<=64*x.av a a),az (Y (x.fc a).1),az (Y (x.av a a)),())) ?_ ?_
  ·refine bz (o4 u) ?_;dsimp only;by_cases q:(x.fc a).1=0
   ·rw[a1 (by show((gA (x.fc a).1==0)==bq)=bq;grind [jD,aH])];grind [aH,bu]
   rw[aY (by show((gA (x.fc a).1==0)==bq)=bp;grind [jD,aF])];refine bz (H4 K u (w.oy c ab ab ab) (t.oy c ab ab ab)) ?_;simp_all [cu,bu]
  rintro _ rfl;dsimp only;rw[cQ];refine ahH (λq=>?_) (λq=>?_)
  ·rw[au q];grind [bu]
  rw[aw q];grind [bu]
 rintro _ rfl;by_cases r:(x.fc a).1=0\/41*(x.fc a).1<=64*x.av a a
 ·rw[au r];refine bu.2 (.inr ⟨_,bn,.inr ⟨[b],bn,by grind,?_⟩⟩);simp_all [aw,ahe,au,tI,aR.gF]
 rw[cf r];dsimp only;refine bz (y:=cF R full lf M) rfl ?_;cases cv with
 |none=>exact absurd (.inl (HK (co bn)).2) r
 |some h=>
  obtain⟨s,v,bx⟩:=ci h bn;have J:=e.NZ s v;have H:=e.mem s v;have a4:=e.M3 s v;have a3:=λj=>e.L6 s v j;generalize dl:R.getD h 0=f at*;have m:x.gF (a::mG R lf (b+1) (full-(b+1)))=if f∉x.rows.take x.full then x.gF (mG R lf (b+1) (full-(b+1))) else if¬x.fin f then bo else
   if 41*((x.fc a).1*(x.fc a).1)<=64*(x.av a a*(x.fc f).1) then Y [a] else
   if 41*(x.fc f).1<=64*x.av f f then Y [f] else Y [a,f]:=by
   rw[aR.gF,aw (ahe j),aw r,bx]
  replace m:=l.trans m;show ae (bif br ((h:Z)>=(cF R full lf M).2.1) then _ else _) _;by_cases E:h<full
  rotate_left
  ·rw[aY (aH (show(h:Z)>=(cF R full lf M).2.1 by show(full:Z)<=(h:Z);omega))];exact bu.2 (.inl ⟨bn,m.trans (au (mt J.1 E))⟩)
  rw[a1 (aF (show¬(h:Z)>=(cF R full lf M).2.1 by show¬(full:Z)<=(h:Z);omega))];rw[aw (ahe (J.2 E))] at m;refine bE a4 ?_;rintro⟨am,an,ap,_⟩ (⟨n,d3,i,_,_⟩|⟨n,i⟩)
  rotate_left
  ·dsimp only at i;subst i;dsimp only;rw[aY (by rfl)];exact bu.2 (.inr ⟨_,bn,.inl ⟨bn,m.trans (b9 n)⟩⟩)
  cases i;dsimp only;rw[a1 (by rfl)];rw[cf (ahe n)] at m;have A:=x.DH c n;have L:=x.sc c (n f H);have N:cL (Y (x.fc f).1):=λp g=>(by cases g;exact A.lG c ab ab);have ce:cL (Y (x.av f f)):=λp g=>(by cases g;exact L.lG c ab ab);obtain⟨B,_,_,c1,ao,U,O,Q⟩:=cR.mul c w A ab ab ab;obtain⟨C,_,_,c2,V,ad,S,T⟩:=cR.mul c t t ab ab ab;cases ao;cases U;cases V;cases ad;rw[O] at B;rw[S] at C;refine bz (pZ K N) (bz (pZ u u) ?_);rw[O,S];refine bz (H4 (λp g=>by cases g;exact B.lG c ab ab) (λp g=>by cases g;exact C.lG c ab ab) (B.oy c ab ab ab) (C.oy c ab ab ab)) ?_;dsimp only;rw[cQ];refine ahH (λd=>?_) (λd=>?_)
  ·rw[D9 T Q] at d;refine bu.2 (.inr ⟨_,bn,.inr ⟨[b],bn,by grind,?_⟩⟩);grind
  rw[D9 T Q] at d;rw[cf d] at m;refine bz (a3 (n f H)) (bz (H4 ce N (L.oy c ab ab ab) (A.oy c ab ab ab)) ?_);dsimp only;rw[cQ];refine ahH (λd=>?_) (λd=>?_)
  ·refine bu.2 (.inr ⟨_,bn,.inr ⟨[h],bn,by grind,?_⟩⟩);grind
  refine bu.2 (.inr ⟨_,bn,.inr ⟨[b,h],bn,?_,?_⟩⟩)
  ·grind
  grind
end
end
def eV (lf:ag8) (a:X):ahb:=(bH a).filter λb=>lf.getD b bq
theorem DV (lf:ag8) (a:X):eV lf (a+1)=if lf.getD a bq=bp then eV lf a++[a] else eV lf a:=by unfold eV;rw[iM,pz,nY,akj];grind
def H8 (lf:ag8) (a:X):(eV lf a).length<=a:=dh (kv _ _) ac
theorem DW (a:ahb) (lf:ag8) (b:X):fe a lf b=(eV lf b).map λc=>a.getD c 0:=rfl
theorem PK {lf:ag8} (i:lf.length=d.length) (j:d.length<=1000):y9 (Y (cF d a lf p),())=Y (a5 (eV lf d.length),()):=by
 have e:ak (cF d a lf p).1=(d.length:Z):=(by rw[bg];exact b3 _ (fI _));unfold y9;refine bP.1 ?_;refine bz (y:=cF d a lf p) rfl ?_;refine bE (P:=λc=>c=(a5 (eV lf d.length),())) ?_ (by grind [bu]);refine bS d.length (λb c=>c=((b:Z),a5 (eV lf b),())) rfl ?_ ?_
 ·rintro b _ h rfl;dsimp only;rw[e,aY (aH (aa:(b:Z)<(d.length:Z))),bk aa];have f:al (cF d a lf p).2.2.1 (b:Z)=Y (lf.getD b bq):=by
   rw[fg];show lf[b]?=_;grind
  refine bE (P:=λc=>c=(a5 (eV lf (b+1)),())) ?_ (by grind [bu]);refine bz (y:=cF d a lf p) rfl (bz f ?_);have:=H8 lf b;rw[DV];cases g:lf.getD b bq with
  |false=>
   rw[bO,aw ab];grind [bu]
  |true=>
   rw[bG,au bn,eB (by grind [fI]),aC];refine bu.2 ?_;rw[oo];rfl
 rintro _ rfl;dsimp only;rw[e,a1 (aF (aa:¬(d.length:Z)<(d.length:Z)))];grind [bu]
theorem acq {a:et} (e:∀b∈a,cL b) (f:cL w) (h:a.length<=1000):o2 (a.map az,az w,())=Y (a.map (λb=>az (cT b w)),()):=by
 unfold o2;refine bP.1 ?_;dsimp only;refine bE (P:=λd=>d=(a.map (λb=>az (cT b w)),())) ?_ (by grind [bu]);refine bS a.length (λc d=>d=((c:Z),(a.take c).map (λb=>az (cT b w)),())) rfl ?_ ?_
 ·rintro c _ g rfl;dsimp only;rw[aY (aH (show(c:Z)<ak (a.map az) by grind)),bk aa];refine bz (y:=az a[c]) (by grind [fg,bR]) ?_;refine bz (pZ (e _ (b6 g)) f) ?_;grind [ct,bR,bu,eB]
 rintro _ rfl;dsimp only;rw[a1 (aF (show¬(a.length:Z)<ak (a.map az) by grind)),cB];grind [bu]
def eG (a:X) (E:X->X->fZ):bm (bm fZ):=aB a λb=>aB a (E b)
theorem Xm {E:X->X->fZ} (i:a<j) (k:b<j) (f:fZ):∃e,(eG j E)[a]?=Y e/\e.length=j/\e[b]?=Y (E a b)/\(eG j E).set a (e.set b f)=eG j λc d=>if c=a/\d=b then f else E c d:=by
 refine⟨_,ju i,cY _ _,ju k,?_⟩;unfold eG;rw[hC,hC];refine c9 λc l=>?_;by_cases g:c=a
 ·subst g;rw[gM];refine c9 λd m=>?_;by_cases h:d=b
  ·subst h;rw[gM];grind
  simp_all [he,aw]
 simp_all [he,c9,aw]
def kp (c:ahb) (f:X->X->ag6) (g h:X->ag6) (E:X->X->fZ) (d e:X):X->X->fZ:=λa b=>
 if(a∈c.take d/\b∈c)\/(c[d]?=Y a/\b∈c.take e) then az (cH (f a b) (c4 (cT (g a) (h b)))) else E a b
theorem QK {R:ahb} {full:X} {lf:ag8} {E:X->X->fZ} {l:ahb} {s:X->X->ag6} {u v:X->ag6} (S:a<=1000) (w:∀J∈l,J<a) (T:l.Nodup) (O:l.length<=1000) (N:∀c∈l,∀e∈l,E c e=az (s c e)) (G:∀c∈l,∀e∈l,cL (s c e)) (H:∀c∈l,cL (u c)) (I:∀c∈l,cL (v c)):pW (cF R full lf (eG a E),a5 l,l.map (λc=>az (u c)),l.map (λc=>az (v c)),())=Y (cF R full lf (eG a λc e=>if c∈l/\e∈l then az (cH (s c e) (c4 (cT (u c) (v e)))) else E c e),()):=by
 have x:ak (a5 l)=(l.length:Z):=(by rw[bg,fI]);have q:∀b,(z:b<l.length)->al (a5 l) (b:Z)=Y ((l[b]:X):Z):=λb g=>(by rw[fg];show(l.map λ(M:X)=>(M:Z))[b]?=_;grind);have y:∀(h:X->ag6) b,(z:b<l.length)->al (l.map λc=>az (h c)) (b:Z)=Y (az (h l[b])):=λh b g=>(by grind [fg,bR]);unfold pW;refine bP.1 ?_;dsimp only;refine bE (P:=λf=>f=(cF R full lf (eG a (kp l s u v E l.length 0)),())) ?_ ?_
 rotate_left
 ·rintro _ rfl;refine bu.2 ?_;have:eG a (kp l s u v E l.length 0)=eG a λc e=>if c∈l/\e∈l then az (cH (s c e) (c4 (cT (u c) (v e)))) else E c e:=by
   unfold eG kp;grind
  grind
 refine bS l.length (λb f=>f=((b:Z),cF R full lf (eG a (kp l s u v E b 0)),())) ?_ ?_ ?_
 ·grind [c9,eG,kp]
 rotate_left
 ·rintro _ rfl;dsimp only;rw[x,a1 (aF (aa:¬(l.length:Z)<(l.length:Z)))];grind [bu]
 rintro b _ g rfl;dsimp only;rw[x,aY (aH (aa:(b:Z)<(l.length:Z))),bk aa];have k:=b6 g;have B:=w _ k;refine bz (q b g) ?_;refine bE (P:=λf=>f=(cF R full lf (eG a (kp l s u v E b l.length)),())) ?_ ?_
 rotate_left
 ·rintro _ rfl;refine bu.2 ?_;have:eG a (kp l s u v E b l.length)=eG a (kp l s u v E (b+1) 0):=by
   unfold eG kp;refine c9 λc _=>c9 λe _=>?_;have:(c∈l.take b/\e∈l\/l[b]?=Y c/\e∈l.take l.length)↔(c∈l.take (b+1)/\e∈l\/l[b+1]?=Y c/\e∈l.take 0):=(by rw[hS,hR,bc g];grind);grind
  grind
 refine bS l.length (λd f=>f=((d:Z),cF R full lf (eG a (kp l s u v E b d)),())) rfl ?_ ?_
 rotate_left
 ·rintro _ rfl;dsimp only;rw[a1 (aF (aa:¬(l.length:Z)<(l.length:Z)))];grind [bu]
 rintro d _ j rfl;dsimp only;rw[aY (aH (aa:(d:Z)<(l.length:Z))),bk aa];have m:=b6 j;have C:=w _ m;have V:l[b]∉l.take b:=λD=>(by grind [aiA,aiY]);have U:l[d]∉l.take d:=λD=>(by grind [aiA,aiY]);have F:kp l s u v E b d l[b] l[d]=az (s l[b] l[d]):=(by simp_all [cf,kp]);obtain⟨K,o,ad,db,L⟩:=Xm (E:=kp l s u v E b d) B C (az (cH (s l[b] l[d]) (c4 (cT (u l[b]) (v l[d])))));rw[F] at db;have Q:(eG a (kp l s u v E b d)).length=a:=cY _ _;have A:(cF R full lf (eG a (kp l s u v E b d))).2.2.2.1=eG a (kp l s u v E b d):=rfl;have r:=eT (n:=(eG a (kp l s u v E b d)).length) (i:=l[b]) aa;have t:=eT (n:=K.length) (i:=l[d]) aa;refine bz (q d j) ?_;rw[A];refine bz r (bz r ?_);rw[gn o,bN];refine bz t ?_;rw[gn o,gn db,bN];refine bz (y u b g) (bz (y v d j) (bz (pZ (H _ k) (I _ m)) (bz (He (G _ k _ m) (kJ _ _)) ?_)));refine bz t ?_;rw[gn o,gn db];refine bu.2 ?_;dsimp only;rw[L];have:(eG a λc e=>if c=l[b]/\e=l[d] then az (cH (s l[b] l[d]) (c4 (cT (u l[b]) (v l[d])))) else kp l s u v E b d c e)=eG a (kp l s u v E b (d+1)):=by
  unfold eG kp;refine c9 λc _=>c9 λe _=>?_;dsimp only;by_cases p:c=l[b]/\e=l[d]
  ·obtain⟨rfl,rfl⟩:=p;rw[au (show l[b]=l[b]/\l[d]=l[d] from⟨bn,bn⟩),au];grind [ajV,ahk,ct,bR]
  rw[aw p];grind [ct,bR,ahk,ais]
 rw[<-this];rfl
section
def gP {α:Type} (l:ahb) (f g:X->X->α) (c d a b:X):α:=if(a∈l.take c/\b∈l)\/(l[c]?=Y a/\b∈l.take d) then f a b else g a b
section
variable {α:Type} {l:ahb} {f g:X->X->α}
theorem G3:gP l f g 0 0=g:=by grind [gP]
theorem G2 (c:a<l.length):gP l f g a l.length=gP l f g (a+1) 0:=by funext i b;unfold gP;have:(i∈l.take a/\b∈l\/l[a]?=Y i/\b∈l.take l.length)↔(i∈l.take (a+1)/\b∈l\/l[a+1]?=Y i/\b∈l.take 0):=(by rw[hS,hR,bc c];grind);grind
theorem GZ:gP l f g l.length 0=λa b=>if a∈l/\b∈l then f a b else g a b:=by grind [gP]
theorem G1 (e:l.Nodup) (c:a<l.length) (d:b<l.length):gP l f g a b l[a] l[b]=g l[a] l[b]:=by unfold gP;rw[aw];grind [aiY,aiA]
theorem G0 (h:a<l.length) (i:b<l.length):gP l f g a (b+1)=λc d=>if c=l[a]/\d=l[b] then f l[a] l[b] else gP l f g a b c d:=by
 funext c d;unfold gP;by_cases e:c=l[a]/\d=l[b]
 ·obtain⟨rfl,rfl⟩:=e;rw[au (show l[a]=l[a]/\l[b]=l[b] from⟨bn,bn⟩),au];grind [ajV,ahk,ct,bR]
 rw[aw e];grind [ct,bR,ahk,ais]
end
def fP (a:ahb) (b:X->X->fZ):bm (bm fZ):=a.map λc=>a.map λd=>b c d
theorem JW (a:ahb) (b:X->X->fZ):(fP a b).length=a.length:=e8 _
theorem E1 (e:X->X->fZ) (f:d[j]?=Y a) (g:d[q]?=Y b):∃c,(fP d e)[j]?=Y c/\c.length=d.length/\c[q]?=Y (e a b):=by simp_all [jn,e8,fP]
theorem Qq (k:d.Nodup) (i:d[a]?=Y b) (g:X->h) (e:h):(d.map g).set a e=d.map λc=>if c=b then e else g c:=by
 refine hQ λj=>?_;rw[vQ,jn,jn,e8];have l:a<d.length:=(hJ.1 i).1;by_cases f:a=j
 ·grind
 rw[aw f];grind [ajO]
theorem JX (h:d.Nodup) (c:X->X->fZ) (l:d[b]?=Y a) (m:d[q]?=Y j) (i:fZ) {g:bm fZ} (n:(fP d c)[b]?=Y g):(fP d c).set b (g.set q i)=fP d λf e=>if f=a/\e=j then i else c f e:=by have k:g=d.map λe=>c a e:=(by grind [ah0,fP]);subst k;rw[Qq h m];unfold fP;rw[Qq h l];refine ik λf _=>?_;grind
theorem QW {a b:X->X->fZ} (f:∀c∈d,∀e∈d,a c e=b c e):fP d a=fP d b:=by grind [ahv,fP]
theorem Mz (a:ahb) (g:X->h):aB a.length (λb=>g (a.getD b 0))=a.map g:=by unfold aB;refine hQ λc=>?_;grind
theorem Xn (a:ahb) (b:X->X->fZ):eG a.length (λc d=>b (a.getD c 0) (a.getD d 0))=fP a b:=by grind [ahv,Mz,fP,aB,eG]
end
section
section
variable {G:ew} {l:bm dc} {n t:X} {L:X->aR} {ps:bm a7} {A:X->X->ag6}
theorem yH (l:bm dc) (t a:X):ez l (t+1) a=if gu l t=(a:Z) then ez l t a++[t] else ez l t a:=by grind [ahG,gu,ez]
theorem LG (b:X->ahb) (a c:X):∀d,((ez l a c).flatMap b).length<=((ez l (a+d) c).flatMap b).length
 |0=>bd _
 |d+1=>by have e:=LG b a c d;grind [ahO,yH]
def jX.Lj (b:jX l n t L ps) (a:ix n l t):(jh l L t).length<=n:=by have c:=(b.Bw a).length_eq;rw[ku,lR] at c;have:=a.ws;omega
def jX.LF (c:jX l n t L ps) (e:ix n l t) (g:a<=t):((ez l a t).flatMap (kk L)).length<=n:=by have b:=c.Lj e;unfold jh at b;rw[ku] at b;have d:=LG (l:=l) (kk L) a t (t-a);rw[(aa:a+(t-a)=t)] at d;have f:((ez l t t).flatMap λa=>(L a).rows.take (L a).full).length=((ez l t t).flatMap (kk L)).length:=rfl;omega
theorem Xs (b:ahb) (a:X):(a5 b).take a=a5 (b.take a):=by grind [alp,a5]
theorem m2 (c:a<d.length):al (a5 d) (a:Z)=Y ((d[a]:X):Z):=by rw[fg];show(d.map λ(b:X)=>(b:Z))[a]?=_;grind
theorem qh (c:a<d.length) (b:Z->bv h):rd (a5 d) (a:Z) b=b ((d[a]:X):Z):=by simp_all [fI,eT,aC,gn,m2,fg,a5,rd]
def k7 (a:ahb) (c:X->X->fZ) (d b:X):bm fZ:=(a.take b).map (c (a.getD d 0))++bJ (a.length-b) (bq,((bq,(([]:ahc),())),((0:Z),())))
theorem P9 {c:X->X->fZ} (e:a<=d.length):(k7 d c b a).length=d.length:=by grind [ahO,cj,aho,List.length_replicate,k7]
theorem Qa {h:X->X->fZ} (e:a<d.length):(k7 d h b a).set a (h (d.getD b 0) d[a])=k7 d h b (a+1):=by unfold k7;have c:d.length-a=(d.length-(a+1))+1:=aa;have f:((d.take a).map (h (d.getD b 0))).length=a:=(by grind);rw[akb _ _ aa,f,oQ,c,List.replicate_succ,List.set_cons_zero,hR,bc e,iy,jb];rfl
theorem ab8 {h:X->X->fZ} (c:a<d.length) (g:h (d.getD b 0) d[a]=az (Y 0)):k7 d h b a=k7 d h b (a+1):=by
 rw[<-Qa c,g];refine(hQ λi=>?_);rw[vQ];by_cases e:a=i
 ·subst e;rw[au bn,P9 aa,au c];unfold k7;have f:((d.take a).map (h (d.getD b 0))).length=a:=(by grind);rw[pC aa,f,oQ,List.getElem?_replicate,au aa];rfl
 grind
theorem aby (J:hO G l) (I:G.length=n) (ap:t<l.length) (z:jX l n t L ps) (T:∀a b,cL (A a b)) (f5:n<=100) (f2:l.length<=100) {S:kS} (ce:∀a b:X,a<n->b<n->zy (S,u,(a:Z),(b:Z),())=Y (az (A a b),())):GU (S,u,l,(t:Z),(bH t).map (λd=>fS (L d)),())=Y (fS (gG A l L t),()):=by
 have q:=ix.of J I ap;have fp:=z.Lj q;have N:∀d,d<=t->∃e:dc,al l (d:Z)=Y e/\e=((be l d:Z),(be l (d+1):Z),gR l (d:Z),gu l d,()):=λd B=>(by have:=(ix.of J I (aa:d<l.length)).g;grind [fg]);have O:∀d,d<t->al ((bH t).map λd=>fS (L d)) (d:Z)=Y (fS (L d)):=λd B=>(by grind [fg,List.getElem?_range]);have ft:=q.ws;have f7:=q.own;have co:=z.tU T q;have E:=wh A L t (l:=l);have V:∀a∈jh l L t++ko l t,a<n:=λa m=>z.wg A q (by grind);have ci:=z.Bx A T q;rw[E.1] at ci;have ad:=co.nd;rw[E.1] at ad;unfold GU;refine bP.1 ?_;dsimp only;refine bE (P:=λj=>j=(([],((0:Z),([],()))),(a5 ((ez l t t).flatMap (kk L)),((0:Z),([],()))),())) ?_ ?_
 ·refine bS t (λd j=>j=((d:Z),([],((0:Z),([],()))),(a5 ((ez l d t).flatMap (kk L)),((0:Z),([],()))),())) rfl ?_ ?_
  ·rintro d _ B rfl;dsimp only;rw[aY (aH (aa:(d:Z)<(t:Z))),bk aa];obtain⟨e,v,rfl⟩:=N d aa;refine bE (P:=λj=>j=(([],((0:Z),([],()))),(a5 ((ez l (d+1) t).flatMap (kk L)),((0:Z),([],()))),())) ?_ (by grind [bu]);refine bz v ?_;dsimp only;have M:=z.LF q (aa:d+1<=t);rw[yH] at M|-;rw[gH,cQ];by_cases o:gu l d=(t:Z)
   ·rw[au o] at M|-;rw[au o];refine bz (O d B) (bz (O d B) ?_);have F:=(z.w d B).full;rw[pB,ku] at M;have f3:(a5 (L d).rows).length=(L d).rows.length:=fI _;refine bz (y:=(0,(L d).full)) ?_ ?_
    ·have eq:(fS (L d)).2.1=((L d).full:Z):=rfl;simp_all [aC,Ec,qa,c8,fS]
    have bl:((((fS (L d)).1).take (L d).full).drop 0)=a5 (kk L d):=(by show((a5 (L d).rows).take (L d).full).drop 0=_;rw[List.drop_zero,Xs];rfl);dsimp only;rw[bl];have fT:(kk L d).length<=n:=(by grind);rw[eB (by grind [fI]),bN];grind [oo,bu]
   rw[aw o,aw o];grind [bu]
  rintro _ rfl;dsimp only;rw[a1 (aF (aa:¬(t:Z)<(t:Z)))];grind [bu]
 rintro _ rfl;dsimp only;obtain⟨e,v,rfl⟩:=N t (cc _);refine bz v ?_;dsimp only;have fz:=z.LF q (cc t);refine bE (P:=λj=>j=(([],((0:Z),([],()))),(a5 (jh l L t),((0:Z),([],()))),())) ?_ ?_
 ·refine bS (fU l t) (λa j=>j=(((be l t+a:X):Z),([],((0:Z),([],()))),(a5 ((ez l t t).flatMap (kk L)++ahf (be l t) a),((0:Z),([],()))),())) ?_ ?_ ?_
  ·grind
  ·rintro a _ m rfl;dsimp only;refine bz v ?_;dsimp only;rw[aY (aH (aa:((be l t+a:X):Z)<(be l (t+1):Z))),bk aa];rw[eB (by grind [ajx,fI,ahO,alq]),bN];refine bu.2 ?_;rw[akn,<-ahP,oo ((ez l t t).flatMap (kk L)++ahf (be l t) a),amH];rfl
  rintro _ rfl;dsimp only;refine bz v ?_;dsimp only;rw[a1 (aF (aa:¬(((be l t+fU l t:X):Z)<(be l (t+1):Z))))];exact bu.2 bn
 rintro _ rfl;dsimp only;have ex:=q.Bc;have f6:=q.Oq;rw[show ak (a5 (jh l L t))=((jh l L t).length:Z) by rw[bg,fI]];generalize c2:((jh l L t).length:Z)=p;refine bE (P:=λj=>j=(([],((0:Z),([],()))),(a5 (jh l L t++ko l t),(p,([],()))),())) ?_ ?_
 ·refine bS (hF l t) (λa j=>j=((a:Z),([],((0:Z),([],()))),(a5 (jh l L t++(ahf (fU l t) (a-fU l t)).map (jB l t)),(p,([],()))),())) ?_ ?_ ?_
  ·grind
  ·rintro a _ m rfl;dsimp only;refine bz v ?_;dsimp only;rw[aY (aH (show(a:Z)<ak (gR l (t:Z)) by grind [bg,hF])),bk aa];have am:al (gR l (t:Z)) (a:Z)=Y ((jB l t a:X):Z):=(by rw[fg];exact q.get a m);refine bE (P:=λj=>j=(([],((0:Z),([],()))),(a5 (jh l L t++(ahf (fU l t) (a+1-fU l t)).map (jB l t)),(p,([],()))),())) ?_ (by grind [bu]);refine bz v (bz am (bz v ?_));dsimp only;rcases cl a (fU l t) with o|o
   ·have:=q.ro a o;rw[a1 (aF (aa:¬((jB l t a:X):Z)>=(be l (t+1):Z))),(aa:a+1-fU l t=a-fU l t)];grind [bu]
   have:=q.EE a o m;rw[aY (aH (aa:((jB l t a:X):Z)>=(be l (t+1):Z))),(aa:a+1-fU l t=a-fU l t+1)];refine bz v (bz am ?_);rw[eB (by grind [ajx,fI,ahO,cj,alq]),aC];refine bu.2 ?_;rw[akn,iy,<-jb,oo (jh l L t++(ahf (fU l t) (a-fU l t)).map (jB l t)),mR,(aa:fU l t+(a-fU l t)=a)];rfl
  rintro _ rfl;dsimp only;refine bz v ?_;dsimp only;rw[a1 (aF (show¬((hF l t:Z)<ak (gR l (t:Z))) by grind [bg,hF]))];exact bu.2 bn
 rintro _ rfl;dsimp only;generalize fl:jh l L t++ko l t=c at*;have U:ak (a5 c)=(c.length:Z):=(by rw[bg,fI]);have f0:∀a,(a4:a<c.length)->c.getD a 0=c[a]:=λa a4=>(by grind);refine bE (P:=λj=>j=(([],((0:Z),([],()))),(a5 c,(p,(fP c (λa b=>az (hy A l t a b)),()))),())) ?_ ?_
 ·refine bS c.length (λa j=>j=((a:Z),([],((0:Z),([],()))),(a5 c,(p,((c.take a).map (λa=>c.map λb=>az (hy A l t a b)),()))),())) rfl ?_ ?_
  ·rintro a _ m rfl;dsimp only;rw[U,aY (aH (aa:(a:Z)<(c.length:Z))),bk aa,ij aa,bN,eB (by grind),bN];have d1:((c.take a).map (λa=>c.map λb=>az (hy A l t a b))).length=a:=(by grind);refine bE (P:=λj=>j=(([],((0:Z),([],()))),(a5 c,(p,((c.take a).map (λa=>c.map λb=>az (hy A l t a b))++[k7 c (λa b=>az (hy A l t a b)) a c.length],()))),())) ?_ ?_
   ·refine bS c.length (λb j=>j=((b:Z),([],((0:Z),([],()))),(a5 c,(p,((c.take a).map (λa=>c.map λb=>az (hy A l t a b))++[k7 c (λa b=>az (hy A l t a b)) a b],()))),())) ?_ ?_ ?_
    ·rfl
    ·rintro b _ r rfl;dsimp only;rw[aY (aH (aa:(b:Z)<(c.length:Z))),bk aa];refine bE (P:=λj=>j=(([],((0:Z),([],()))),(a5 c,(p,((c.take a).map (λa=>c.map λb=>az (hy A l t a b))++[k7 c (λa b=>az (hy A l t a b)) a (b+1)],()))),())) ?_ (by grind [bu]);rw[qh m,qh r];have ds:(if((c[b]:X):Z)<((c[a]:X):Z) then((c[b]:X):Z) else((c[a]:X):Z))=((min c[a] c[b]:X):Z):=aa;rw[ds];refine bz (y:=(br (be l t<=min c[a] c[b]/\min c[a] c[b]<be l (t+1)),([],((0:Z),([],()))),(a5 c,(p,((c.take a).map (λa=>c.map λb=>az (hy A l t a b))++[k7 c (λa b=>az (hy A l t a b)) a b],()))),())) ?_ ?_
     ·refine ah v ?_;dsimp only;by_cases o:be l t<=min c[a] c[b]
      ·simp_all
      grind
     dsimp only;by_cases o:be l t<=min c[a] c[b]/\min c[a] c[b]<be l (t+1)
     ·rw[aY (aH o)];have av:((c.take a).map (λa=>c.map λb=>az (hy A l t a b))++[k7 c (λa b=>az (hy A l t a b)) a b])[a]?=Y (k7 c (λa b=>az (hy A l t a b)) a b):=by
       simp_all
      rw[eT (by grind),bN,qh m,qh r];refine bz (ce _ _ (V _ (b6 m)) (V _ (b6 r))) ?_;dsimp only;have fs:(k7 c (λa b=>az (hy A l t a b)) a b).length=c.length:=P9 aa;rw[gn av,bN,eT aa,bN,gn av,gn (bR (aa:b<(k7 c (λa b=>az (hy A l t a b)) a b).length))];refine bu.2 ?_;have d2:az (A c[a] c[b])=az (hy A l t (c.getD a 0) c[b]):=(by simp_all [b9,hy]);dsimp only;rw[d2,Qa (h:=λa b=>az (hy A l t a b)) r,akb _ _ aa,d1,Nat.sub_self];rfl
     rw[a1 (aF o)];refine bu.2 ?_;rw[ab8 (h:=λa b=>az (hy A l t a b)) r (by simp_all [aw,hy])]
    rintro _ rfl;dsimp only;rw[a1 (aF (aa:¬(c.length:Z)<(c.length:Z)))];grind [bu]
   rintro _ rfl;refine bu.2 ?_;have:k7 c (λa b=>az (hy A l t a b)) a c.length=c.map λb=>az (hy A l t c[a] b):=(by simp_all [oJ,oQ,hS,k7]);rw[this,hR,bc m,iy];rfl
  rintro _ rfl;dsimp only;rw[U,a1 (aF (aa:¬(c.length:Z)<(c.length:Z))),cB];exact bu.2 bn
 rintro _ rfl;dsimp only;have c1:∀d,((ez l d t).foldl (λk d=>k.plus (L d)) (jL A l L t)).rows=c:=λd=>(by simp_all [Ar,ez,jL]);have d0:∀d a b,cL (((ez l d t).foldl (λk d=>k.plus (L d)) (jL A l L t)).s a b):=λd=>Ey L _ _ λa b=>by
  show cL (if _ then _ else _);split
  ·grind
  exact Al
 refine bE (P:=λj=>j=(([],((0:Z),([],()))),fS (gG A l L t),())) ?_ (by grind [bu]);refine bS t (λd j=>j=((d:Z),([],((0:Z),([],()))),(a5 c,(p,(fP c (λa b=>az (((ez l d t).foldl (λk d=>k.plus (L d)) (jL A l L t)).s a b)),()))),())) rfl ?_ ?_
 rotate_left
 ·rintro _ rfl;dsimp only;rw[a1 (aF (aa:¬(t:Z)<(t:Z)))];refine bu.2 ?_;unfold fS;rw[E.1,E.2,c2];rfl
 rintro d _ B rfl;dsimp only;rw[aY (aH (aa:(d:Z)<(t:Z))),bk aa];obtain⟨e,d4,rfl⟩:=N d aa;refine bE (P:=λj=>j=(([],((0:Z),([],()))),(a5 c,(p,(fP c (λa b=>az (((ez l (d+1) t).foldl (λk d=>k.plus (L d)) (jL A l L t)).s a b)),()))),())) ?_ (by grind [bu]);refine bz d4 ?_;dsimp only;rw[gb,yH];by_cases o:gu l d=(t:Z)
 rotate_left
 ·rw[aw o,aY (by grind)];grind [bu]
 rw[au o,a1 (by grind)];refine bz (O d B) ?_;rw[amI,yk,List.foldl_nil];have K:∀a∈(L d).rows,a∈c:=λa m=>(by have:=z.child A J I ap (uX.2 ⟨B,o⟩) m;grind);have d3:=d0 d;have gc:=c1 d;generalize(ez l d t).foldl (λk d=>k.plus (L d)) (jL A l L t)=k at*;have F:=z.w d B;generalize L d=e at*;have ge:e.rows.length<=100:=(by have:=F.nd.length_le_of_subset (l₂:=c) K;omega);have H:ak (fS e).1=(e.rows.length:Z):=(by rw[bg];exact b3 _ (fI _));refine bE (P:=λj=>j=(([],((0:Z),([],()))),(a5 c,(p,(fP c (λa b=>az ((k.plus e).s a b)),()))),())) ?_ (by grind [bu]);have cs:(λa b=>az ((k.plus e).s a b))=λa b=>if a∈e.rows/\b∈e.rows then az (cH (k.s a b) (e.s a b)) else az (k.s a b):=by funext a b;show az (if _ then _ else _)=_;grind
 rw[cs,<-GZ (l:=e.rows) (f:=λa b=>az (cH (k.s a b) (e.s a b))) (g:=λa b=>az (k.s a b))];generalize cv:(λa b=>az (cH (k.s a b) (e.s a b)))=C;generalize dl:(λa b=>az (k.s a b))=D;refine bS e.rows.length (λa j=>j=((a:Z),([],((0:Z),([],()))),(a5 c,(p,(fP c (gP e.rows C D a 0),()))),fS e,())) ?_ ?_ ?_
 ·rw[G3];rfl
 rotate_left
 ·rintro _ rfl;dsimp only;rw[H,a1 (aF (aa:¬(e.rows.length:Z)<(e.rows.length:Z)))];grind [bu]
 rintro a _ m rfl;dsimp only;rw[H,aY (aH (aa:(a:Z)<(e.rows.length:Z))),bk aa];refine bE (P:=λj=>j=(([],((0:Z),([],()))),(a5 c,(p,(fP c (gP e.rows C D a e.rows.length),()))),fS e,())) ?_ (by grind [bu,G2]);refine bS e.rows.length (λb j=>j=((b:Z),([],((0:Z),([],()))),(a5 c,(p,(fP c (gP e.rows C D a b),()))),fS e,())) rfl ?_ ?_
 rotate_left
 ·rintro _ rfl;dsimp only;rw[H,a1 (aF (aa:¬(e.rows.length:Z)<(e.rows.length:Z)))];grind [bu]
 rintro b _ r rfl;dsimp only;rw[H,aY (aH (aa:(b:Z)<(e.rows.length:Z))),bk aa];have a0:=b6 m;have a3:=b6 r;obtain⟨d6,d7,d8,_⟩:=Aq (l:=c) aa e.rows[a];obtain⟨d5,rfl,Q⟩:=d8 (K _ a0);obtain⟨d6,ek,el,_⟩:=Aq (l:=c) aa e.rows[b];obtain⟨j,rfl,R⟩:=el (K _ a3);have f8:=(ahT.1 Q).1;have f9:=(ahT.1 R).1;obtain⟨d9,em,go,db⟩:=E1 (gP e.rows C D a b) Q R;have bx:=JX ad (gP e.rows C D a b) Q R (C e.rows[a] e.rows[b]) em;rw[<-G0 m r] at bx;rw[G1 F.nd m r] at db;have f4:(fP c (gP e.rows C D a b)).length=c.length:=JW _ _;have an:=eT (n:=(fP c (gP e.rows C D a b)).length) (i:=d5) aa;have f1:=eT (n:=d9.length) (i:=j) aa;obtain⟨gl,gf,gi⟩:=w3 (x:=e) (bR m) (bR r);have fn:=Az (d3 e.rows[a] e.rows[b]) (F.okd _ a0 _ a3);subst cv dl;refine bz (m2 m) (bz d7 (bz (m2 r) (bz ek (bz an (bz an ?_)))));simp_all [bu,gn,bz,bN]
end
end
theorem Ir {c:Type} {p:c->bA} {d:c}:∀{e:bm c},d∈e.takeWhile p->p d=bp
 |[],a=>by cases a
 |b::e,a=>by
  rw[List.takeWhile_cons] at a;split at a
  ·rcases fR.1 a with rfl|a
   ·omega
   exact Ir a
  grind
def nE (a:X->X) (c:X) (d:ahb):ahb:=d.takeWhile (λb=>br (a b<a c))++c::d.dropWhile (λb=>br (a b<a c))
def mI (a:X->X) (b:ahb):ahb:=b.foldl (λd c=>nE a c d) []
abbrev m9:=ahb×(X->Z)
def a7.c3 (a:a7):bm m9:=a.l.map λb=>(a.rows,b)
def ke (b:m9->ahc) (a:bm m9):ahc:=(bH (a.length+1)).map λc=>(((a.take c).flatMap b).length:Z)
def gE (a:X->X) (b:m9):ahc:=(mI a b.1).map λc=>(a c:Z)
def ip (b:X->X) (a:m9):ahc:=(mI b a.1).map a.2
def ly (c:ahc) (a:bm a7) (del:Z):dd:=
 ((
  a.flatMap a7.cD).map (λb=>c.getD b 0),(a.map (λe=>(e.cD.length:Z)),(a.flatMap (·.d),
  (ke (gE λb=>(a.flatMap a7.cD).idxOf b) (a.flatMap a7.c3),((a.flatMap a7.c3).flatMap (gE λb=>(a.flatMap a7.cD).idxOf b),((a.flatMap a7.c3).flatMap (ip λb=>(a.flatMap a7.cD).idxOf b),(del,())))))))
theorem Lu (b:m9->ahc) (a:bm m9) (c:m9):ke b (a++[c])=ke b a++[(((a++[c]).flatMap b).length:Z)]:=by
 unfold ke;rw[ku,rW,iM,iy];congr 1
 ·grind [ahv]
 grind
theorem V1 (a:X->X) (c:X) (b:ahb):(nE a c b).length=b.length+1:=by unfold nE;have e:=b3 ahn (A9 (p:=λd=>br (a d<a c)) (l:=b));grind
def QG (c:X->X):∀(b a:ahb),(b.foldl (λa p=>nE c p a) a).length=a.length+b.length
 |[],a=>rfl
 |p::b,a=>by rw[yk,QG c b,V1,jc];omega
theorem rF (b:X->X) (a:ahb):(mI b a).length=a.length:=by unfold mI;rw[QG,oK,mS]
theorem acR (b:X->X) (c:a<d.length):mI b (d.take (a+1))=nE b d[a] (mI b (d.take a)):=by grind [ct,bR,mI]
theorem Dw (b:m9->bm h) {cs:bm m9} (c:∀a∈cs,(b a).length<=100):(cs.flatMap b).length<=100*cs.length:=by
 induction cs with
 |nil=>grind
 |cons a cs d=>
  grind
theorem aaZ (a:X->X) (c:ahb) (b:X) (O:c.length<=1000) (d:dd) (f:aA) (g:dd) (k:aA):(loop (σ:=qL) (ρ:=qL) (λ(h,r,n,m,j,s,_)=>
 bB (α:=(dd×aA×dd×aA×aA×bt)⊕(qL⊕qL)) (
  bif br (h<ak j)==bp then rd j h λI=>
  bif br (I<(a b:Z)) then
 Y (.inl (r,n,m,j,s,())) else
 Y (.inr (.inr (h,r,n,m,j,s,()))) else Y (.inr (.inr (h,r,n,m,j,s,())))) λq=>match q with
 |.inl (G,u,t,E,H,_)=>(
 Y (.inl (aP h,G,u,t,E,H,())))
 |.inr F=>Y F) (0,d,f,g,c.map (λb=>(a b:Z)),k,()))=Y (((c.takeWhile λd=>br (a d<a b)).length:Z),d,f,g,c.map (λb=>(a b:Z)),k,()):=by
 refine bP.1 ?_;generalize A:c.takeWhile (λd=>br (a d<a b))=e;have M:e.length<=c.length:=(by grind [amJ]);have D:=A9 (p:=λd=>br (a d<a b)) (l:=c);rw[A] at D;have o:(c.map (λb=>(a b:Z))).length=c.length:=e8 _;refine bS e.length (λi q=>q=((i:Z),d,f,g,c.map (λb=>(a b:Z)),k,())) rfl ?_ ?_
 ·rintro i _ N rfl;dsimp only;have B:i<c.length:=aa;have x:a (c[i]'B)<a b:=by
   have z:e[i]∈c.takeWhile (λd=>br (a d<a b)):=(by grind);have L:=Ir z;grind
  refine bz (y:=.inl (d,f,g,c.map (λb=>(a b:Z)),k,())) ?_ ?_
  ·rw[bg,o,aY (by grind)];simp_all [eT,aC,gn,jn,bc,aY,aH,rd]
  grind [bu,bk]
 rintro _ rfl;dsimp only;refine bz (y:=.inr (.inr ((e.length:Z),d,f,g,c.map (λb=>(a b:Z)),k,()))) ?_ (bu.2 bn);rw[bg,o];by_cases w:e.length<c.length
 ·rw[aY (by grind)];unfold rd;rw[o,eT w,aC,gn (v:=(a c[e.length]:Z)) (by grind),aC,a1 (aF ?_)];intro K;have C:c.dropWhile (λd=>br (a d<a b))≠[]:=λJ=>by
   grind
  have x:=amK (λd=>br (a d<a b)) C;grind
 grind
theorem Ni (a:X->X) (c:X) (b:ahb) (e:X->h):((([]:bm h)++(((b.map e).take (b.takeWhile λd=>br (a d<a c)).length).drop 0))++[e c])++(((b.map e).take (b.map e).length).drop (b.takeWhile λd=>br (a d<a c)).length)=(nE a c b).map e:=by have f:=A9 (p:=λd=>br (a d<a c)) (l:=b);rw[hS,lj,iL,<-alp,<-List.map_drop];grind [List.take_left,List.drop_left,ahP,decide,nE]
theorem Fk (c:X->Z) (f:a<b) (e:Z) (d:ahc->bv h):wr (aB b c) (a:Z) e d=d (aB b (eC c a e)):=by simp_all [cY,eT,aC,gn,ju,hC,wr]
def xP (c:X->Z) (d:a<b) (e:Z->bv h):rd (aB b c) (a:Z) e=e (c a):=by unfold rd;rw[cY,eT d,aC,gn (ju d),aC]
theorem VW {B:ahb} (c:d.Nodup) (b:d=l++a::B):d.idxOf a=l.length:=by grind
def QA (a b:X) (e:a<=b):((Y 0).bind λc=>(gy (a:Z)).bind λd=>(hb c d b).bind λ_=>(nL b).map λ_=>(c,d))=Y (0,a):=by rw[aC,Ec,aC,qa ⟨c8 _,e⟩];rfl
def QB (b a:X) (e:b<=a):((gy (b:Z)).bind λc=>(Y a).bind λd=>(hb c d a).bind λ_=>(nL a).map λ_=>(c,d))=Y (b,a):=by rw[Ec,aC,aC,qa ⟨e,bd _⟩];rfl
theorem At {a:bm a7} (e:∀b∈a,tN l b):a.length<=(a.flatMap a7.cD).length/\(a.flatMap a7.d).length<=3*a.length/\(a.flatMap a7.c3).length=(a.flatMap a7.cD).length:=by
 induction a with
 |nil=>grind
 |cons b a g=>
  obtain⟨h,i,j⟩:=g λf o=>e f (by grind);have c:=e b ac;have k:=c.at1;have m:=c.dl;have n:b.c3.length=b.cD.length:=(by unfold a7.c3;rw[e8,c.len]);grind
theorem E0 (c:a7->bm h) {b:bm a7} (d:a<b.length):(b.take (a+1)).flatMap c=(b.take a).flatMap c++c b[a]:=by grind [ct,bR]
def Hu (c:a7->bm h) {b:bm a7} (d:a<b.length):b.flatMap c=(b.take a).flatMap c++(c b[a]++(b.drop (a+1)).flatMap c):=by
 conv=>lhs;rw[<-kw (a+1) b]
 rw[pB,E0 c d,jb]
theorem abC (bx:f.length=a) (fs:a<=100) {e:bm a7} (E:(e.flatMap a7.cD).Perm (bH a)) (y:∀b∈e,tN (bH a) b) (del:Z):GV (f,e.map ji,del,())=Y (ly f e del,()):=by
 obtain⟨f5,f6,f7⟩:=At y;have d3:(e.flatMap a7.cD).length=a:=(by rw[E.length_eq,ah8]);have T:(e.flatMap a7.cD).Nodup:=E.nodup_iff.2 alr;have J:∀c,c∈e.flatMap a7.cD↔c<a:=λc=>(by rw[E.mem_iff,aih]);have C:ak (e.map ji)=(e.length:Z):=(by grind);have L:∀i,(Q:i<e.length)->al (e.map ji) (i:Z)=Y (ji e[i]):=λi Q=>(by grind [fg,bR]);unfold GV ly;refine bP.1 ?_;dsimp only;generalize I:e.flatMap a7.cD=m at*;rw[show ak f=(a:Z) by rw[bg,bx],ij aa,bN];refine bE (P:=λb=>b=(([],([],([],([],([],([],((0:Z),()))))))),aB a (λc=>(m.idxOf c:Z)),(m.map (λc=>f.getD c 0),(e.map (λb=>(b.cD.length:Z)),(e.flatMap (·.d),([0],(([]:aA),(([]:aA),(del,()))))))),())) ?_ ?_
 ·refine bS e.length (λi b=>b=((i:Z),([],([],([],([],([],([],((0:Z),()))))))),aB a (λc=>if c∈(e.take i).flatMap a7.cD then(m.idxOf c:Z) else 0),(((e.take i).flatMap a7.cD).map (λc=>f.getD c 0),((e.take i).map (λb=>(b.cD.length:Z)),((e.take i).flatMap (·.d),([0],(([]:aA),(([]:aA),(del,()))))))),())) ?_ ?_ ?_
  ·grind [jj,c9]
  rotate_left
  ·rintro _ rfl;dsimp only;rw[C,a1 (aF (aa:¬(e.length:Z)<(e.length:Z))),cB];refine bu.2 ?_;have:(aB a λc=>if c∈e.flatMap a7.cD then(m.idxOf c:Z) else 0)=aB a λc=>(m.idxOf c:Z):=c9 λc N=>by
    rw[I,au ((J c).2 N)]
   grind
  rintro i _ q rfl;dsimp only;rw[C,aY (aH (aa:(i:Z)<(e.length:Z))),bk aa];have w:=y _ (b6 q);have co:=Hu a7.cD q;have f1:=Hu a7.d q;rw[I] at co;have n:=L i q;have F:=E0 a7.cD q;have V:=E0 a7.d q;have a4:(e.take (i+1)).map (λb=>(b.cD.length:Z))=(e.take i).map (λb=>(b.cD.length:Z))++[(e[i].cD.length:Z)]:=(by grind [ct,bR]);have f3:(e.take i).length<=e.length:=(by grind);generalize e[i]=b at*;generalize d4:(e.take i).flatMap a7.cD=k at*;have d5:k.length+b.cD.length<=a:=(by grind);refine bE (P:=λs=>s=(([],([],([],([],([],([],((0:Z),()))))))),aB a (λc=>if c∈k++b.cD then(m.idxOf c:Z) else 0),((k++b.cD).map (λc=>f.getD c 0),((e.take i).map (λb=>(b.cD.length:Z)),((e.take i).flatMap (·.d),([0],(([]:aA),(([]:aA),(del,()))))))),())) ?_ ?_
  ·refine bS b.cD.length (λg s=>s=((g:Z),([],([],([],([],([],([],((0:Z),()))))))),aB a (λc=>if c∈k++b.cD.take g then(m.idxOf c:Z) else 0),((k++b.cD.take g).map (λc=>f.getD c 0),((e.take i).map (λb=>(b.cD.length:Z)),((e.take i).flatMap (·.d),([0],(([]:aA),(([]:aA),(del,()))))))),())) ?_ ?_ ?_
   ·simp_all
   ·rintro g _ M rfl;dsimp only;refine bz n ?_;have t:ak (ji b).1=(b.cD.length:Z):=(by rw[bg];exact b3 _ (fI _));rw[t,aY (aH (aa:(g:Z)<(b.cD.length:Z))),bk aa];have K:al (ji b).1 (g:Z)=Y ((b.cD[g]:X):Z):=m2 M;have ce:b.cD[g]<a:=(J _).1 (by grind);have a3:m.idxOf b.cD[g]=(k++b.cD.take g).length:=by
     refine VW T (B:=b.cD.drop (g+1)++(e.drop (i+1)).flatMap a7.cD) ?_;grind [ahP,aiK,ai4]
    refine bz n (bz K ?_);rw[Fk _ ce];refine bz n (bz K ?_);refine bz (hj aa) ?_;have fl:(k++b.cD.take g).length<=a:=(by grind);rw[eB (by grind),aC];refine bu.2 ?_;have ao:k++b.cD.take (g+1)=(k++b.cD.take g)++[b.cD[g]]:=(by simp_all);have c1:(aB a (eC (λc=>if c∈k++b.cD.take g then(m.idxOf c:Z) else 0) b.cD[g] (ak ((k++b.cD.take g).map λc=>f.getD c 0))))=aB a λc=>if c∈k++b.cD.take (g+1) then(m.idxOf c:Z) else 0:=by
     refine c9 λc N=>?_;rw[ao];by_cases H:c=b.cD[g]
     ·subst H;rw[gM,au (lm _ (gj.2 bn)),bg,e8,a3]
     rw[he _ _ H];have:c∈(k++b.cD.take g)++[b.cD[g]]↔c∈k++b.cD.take g:=(by grind);simp_all
    grind
   rintro _ rfl;dsimp only;refine bz n ?_;have t:ak (ji b).1=(b.cD.length:Z):=(by rw[bg];exact b3 _ (fI _));rw[t,a1 (aF (aa:¬(b.cD.length:Z)<(b.cD.length:Z))),cB];grind [bu]
  rintro _ rfl;dsimp only;have el:((e.take i).flatMap a7.d).length+b.d.length<=3*e.length:=(by grind);refine bz n ?_;rw[eB (by grind),bN];refine bz n ?_;rw[eB (by show((e.take i).flatMap a7.d).length+b.d.length<=_;omega),bN];refine bu.2 ?_;have t:ak (ji b).1=(b.cD.length:Z):=(by rw[bg];exact b3 _ (fI _));rw[F,V,a4,t];rfl
 rintro _ rfl;dsimp only;generalize em:(λc=>m.idxOf c)=h at*;have am:(λc=>(m.idxOf c:Z))=λc=>(h c:Z):=(by grind);rw[am];have ci:∀b∈e,b.rows.length<=100:=λb w=>(by have:=(y b w).nd.length_le_of_subset (y b w).sub;grind);have U:∀r:bm m9,(∀v∈r,v.1.length<=100)->r.length<=100->(r.flatMap (gE h)).length<=10000/\(r.flatMap (ip h)).length<=10000:=λr c2 dl=>(by grind [Dw,cj,rF,ip,gE]);have d9:∀v∈e.flatMap a7.c3,v.1.length<=100:=λv A=>(by obtain⟨b,w,A⟩:=ajy.1 A;obtain⟨j,_,rfl⟩:=ajv.1 A;grind);generalize d2:m.map (λc=>f.getD c 0)=z;generalize d6:e.map (λb=>(b.cD.length:Z))=jE;generalize d1:e.flatMap (·.d)=x;refine bE (P:=λb=>b=(([],([],([],([],([],([],((0:Z),()))))))),(z,(jE,(x,(ke (gE h) (e.flatMap a7.c3),((e.flatMap a7.c3).flatMap (gE h),((e.flatMap a7.c3).flatMap (ip h),(del,()))))))),())) ?_ (by grind [bu]);refine bS e.length (λi b=>b=((i:Z),([],([],([],([],([],([],((0:Z),()))))))),aB a (λc=>(h c:Z)),(z,(jE,(x,(ke (gE h) ((e.take i).flatMap a7.c3),(((e.take i).flatMap a7.c3).flatMap (gE h),(((e.take i).flatMap a7.c3).flatMap (ip h),(del,()))))))),())) rfl ?_ ?_
 rotate_left
 ·rintro _ rfl;dsimp only;rw[C,a1 (aF (aa:¬(e.length:Z)<(e.length:Z))),cB];grind [bu]
 rintro i _ q rfl;dsimp only;rw[C,aY (aH (aa:(i:Z)<(e.length:Z))),bk aa];have w:=y _ (b6 q);have n:=L i q;have F:=E0 a7.c3 q;have f0:=Hu a7.c3 q;have fz:=ci _ (b6 q);rw[F];generalize e[i]=b at*;generalize ds:(e.take i).flatMap a7.c3=p at*;have d0:p.length+b.c3.length<=100:=(by grind);have ek:∀g,b.c3.take g=(b.l.take g).map λj=>(b.rows,j):=λg=>(by grind [alp,a7.c3]);have d8:b.c3.length=b.l.length:=(by grind [cj,a7.c3]);have ft:=w.len;refine bE (P:=λs=>s=(([],([],([],([],([],([],((0:Z),()))))))),aB a (λc=>(h c:Z)),(z,(jE,(x,(ke (gE h) (p++b.c3),((p++b.c3).flatMap (gE h),((p++b.c3).flatMap (ip h),(del,()))))))),())) ?_ (by grind [bu]);refine bS b.cD.length (λg s=>s=((g:Z),([],([],([],([],([],([],((0:Z),()))))))),aB a (λc=>(h c:Z)),(z,(jE,(x,(ke (gE h) (p++b.c3.take g),((p++b.c3.take g).flatMap (gE h),((p++b.c3.take g).flatMap (ip h),(del,()))))))),())) ?_ ?_ ?_
 ·grind
 rotate_left
 ·rintro _ rfl;dsimp only;refine bz n ?_;have t:ak (ji b).1=(b.cD.length:Z):=(by rw[bg];exact b3 _ (fI _));rw[t,a1 (aF (aa:¬(b.cD.length:Z)<(b.cD.length:Z))),ck aa];grind [bu]
 rintro g _ M rfl;dsimp only;refine bz n ?_;have t:ak (ji b).1=(b.cD.length:Z):=(by rw[bg];exact b3 _ (fI _));rw[t,aY (aH (aa:(g:Z)<(b.cD.length:Z))),bk aa];have ex:g<b.l.length:=aa;have bl:p++b.c3.take (g+1)=(p++b.c3.take g)++[(b.rows,b.l[g])]:=(by grind [bR,ct,ahP,a7.c3]);have ap:al (ji b).2.2.2.1 (g:Z)=Y (b.rows.map b.l[g]):=(by rw[fg];show(b.l.map λj=>b.rows.map j)[g]?=_;grind);rw[bl];have S:∀v∈p++b.c3.take g,v.1.length<=100:=λv A=>(by grind);have R:(p++b.c3.take g).length<=100:=(by grind);obtain⟨cs,cv⟩:=U _ S R;generalize p++b.c3.take g=r at*;generalize b.l[g]=j at*;have O:ak (ji b).2.2.1=(b.rows.length:Z):=(by rw[bg];exact b3 _ (fI _));generalize ad:((z,(jE,(x,(ke (gE h) r,(r.flatMap (gE h),(r.flatMap (ip h),(del,()))))))):dd)=G;refine bE (P:=λs=>s=(([],([],([],([],([],([],((0:Z),()))))))),aB a (λc=>(h c:Z)),G,gE h (b.rows,j),ip h (b.rows,j),())) ?_ ?_
 ·refine bS b.rows.length (λo s=>s=((o:Z),([],([],([],([],([],([],((0:Z),()))))))),aB a (λc=>(h c:Z)),G,(mI h (b.rows.take o)).map (λc=>(h c:Z)),(mI h (b.rows.take o)).map j,())) rfl ?_ ?_
  rotate_left
  ·rintro _ rfl;dsimp only;refine bz n ?_;rw[O,a1 (aF (aa:¬(b.rows.length:Z)<(b.rows.length:Z))),cB];exact bu.2 bn
  rintro o _ D rfl;dsimp only;refine bz n ?_;rw[O,aY (aH (aa:(o:Z)<(b.rows.length:Z))),bk aa];have av:al (ji b).2.2.1 (o:Z)=Y ((b.rows[o]:X):Z):=m2 D;have a0:b.rows[o]<a:=aih.1 (w.sub _ (b6 D));have an:al (b.rows.map j) (o:Z)=Y (j b.rows[o]):=(by grind [fg,bR]);refine bz n (bz av ?_);rw[xP _ a0];have fT:(mI h (b.rows.take o)).length<=100:=(by grind [rF,aho]);rw[acR h D];generalize mI h (b.rows.take o)=u at*;generalize b.rows[o]=c at*;have d7:(u.takeWhile λj=>br (h j<h c)).length<=u.length:=(amJ _).length_le;refine bz (aaZ h u c aa _ _ _ _) ?_;dsimp only;have fn:(u.map λc=>(h c:Z)).length=u.length:=cj _;have fp:(u.map j).length=u.length:=cj _;rw[<-Ni h c u j,<-Ni h c u λc=>(h c:Z)];refine bz (QA _ _ aa) ?_;dsimp only;rw[eB (by grind),bN,eB (by grind),bN];refine bz (QB _ _ aa) ?_;dsimp only;rw[eB (by grind),bN];refine bz (QA _ _ aa) ?_;dsimp only;rw[eB (by grind),bN];refine bz n (bz ap (bz an ?_));rw[eB (by grind),bN];refine bz (QB _ _ aa) ?_;dsimp only;rw[eB (by grind),bN];grind [bu]
 rintro _ rfl;subst ad;dsimp only;have eq:(gE h (b.rows,j)).length=b.rows.length:=(by grind [cj,rF,gE]);have f4:(ip h (b.rows,j)).length=b.rows.length:=(by grind [cj,rF,ip]);have f2:(ke (gE h) r).length=r.length+1:=(by grind [cj,ah8,ke]);rw[eB aa,bN,eB aa,bN,eB (by grind),bN];simp_all [Lu,bg,List.flatMap_append,bu,ao,ip,gE]
structure li where
 R:ahb
 full:X
 lf:ag8
 M:bm (bm fZ)
def li.enc (a:li):bv c0:=Y (cF a.R a.full a.lf a.M)
def li.ok (a:li):Prop:=a.lf.length=a.R.length/\a.full<=a.R.length/\a.R.length<=100
def kB (b:bm li):ahb:=b.flatMap λa=>fe a.R a.lf a.full
theorem Ia (b:ahb) (lf:ag8) (a:X):(fe b lf a).length<=a:=by grind [cA,ahF,cj,fe]
theorem LC {l:bm li} (b:∀a∈l,a.ok):(kB l).length<=100*l.length:=by
 induction l with
 |nil=>exact bd _
 |cons a l d=>
  have f:=d λc j=>b c (by grind);obtain⟨_,g,h⟩:=b a ac;have i:=Ia a.R a.lf a.full;have e:kB (a::l)=fe a.R a.lf a.full++kB l:=rfl;grind
theorem ab9 {l:bm li} (e:∀a∈l,a.ok) (w:l.length<=100) {F L:X} {rows:ahc} {par:Z} (s:F<=L) (t:L<=1000) (z:L-F<=rows.length) (A:rows.length<=1000):Cl (((F:Z),((L:Z),(rows,(par,())))),l.map li.enc,())=Y (a5 (kB l++ahf F (L-F))++rows.drop (L-F),((kB l++ahf F (L-F)).length:Z),()):=by
 have u:=LC e;unfold Cl;refine bP.1 ?_;dsimp only;refine bE (P:=λd=>d=(a5 (kB l),())) ?_ ?_
 ·refine bS l.length (λc d=>d=((c:Z),a5 (kB (l.take c)),())) rfl ?_ ?_
  rotate_left
  ·rintro _ rfl;dsimp only;rw[a1 (aF (show¬(l.length:Z)<ak (l.map li.enc) by grind)),cB];grind [bu]
  rintro c _ k rfl;dsimp only;rw[aY (aH (show(c:Z)<ak (l.map li.enc) by grind)),bk aa];have f:=e _ (b6 k);have v:=LC (l:=l.take c) λa f=>e a (amL f);have B:(l.take c).length<=c:=(by grind);have j:kB (l.take (c+1))=kB (l.take c)++fe l[c].R l[c].lf l[c].full:=(by grind [ct,bR,kB]);rw[j];refine bz (y:=l[c].enc) (by grind [fg,bR]) ?_;generalize l[c]=a at*;obtain⟨o,p,q⟩:=f;refine bz (y:=cF a.R a.full a.lf a.M) rfl ?_;refine bE (P:=λd=>d=(a5 (kB (l.take c)++fe a.R a.lf a.full),())) ?_ (by grind [bu]);refine bS a.full (λb d=>d=((b:Z),a5 (kB (l.take c)++fe a.R a.lf b),())) ?_ ?_ ?_
  ·rw[show fe a.R a.lf 0=[] from rfl,oJ];rfl
  rotate_left
  ·rintro _ rfl;dsimp only;rw[a1 (aF (show¬(a.full:Z)<(cF a.R a.full a.lf a.M).2.1 from aln _))];grind [bu]
  rintro b _ i rfl;dsimp only;rw[aY (aH (show(b:Z)<(cF a.R a.full a.lf a.M).2.1 by show(b:Z)<(a.full:Z);omega)),bk aa];have g:al (cF a.R a.full a.lf a.M).2.2.1 (b:Z)=Y (a.lf.getD b bq):=(by rw[fg];show a.lf[b]?=_;grind);have h:al (cF a.R a.full a.lf a.M).1 (b:Z)=Y ((a.R.getD b 0:X):Z):=(by rw[fg];show(a.R.map λ(n:X)=>(n:Z))[b]?=_;grind);have x:=Ia a.R a.lf b;refine bE (P:=λd=>d=(a5 (kB (l.take c)++fe a.R a.lf (b+1)),())) ?_ (by grind [bu]);refine bz (y:=cF a.R a.full a.lf a.M) rfl (bz g ?_);rw[xm];cases r:a.lf.getD b bq with
  |false=>
   rw[bO,aw ab];grind [bu]
  |true=>
   rw[bG,au bn];refine bz (y:=cF a.R a.full a.lf a.M) rfl (bz h ?_);rw[eB (by grind [fI]),aC];refine bu.2 ?_;rw[<-jb,oo (kB (l.take c)++fe a.R a.lf b)];rfl
 rintro _ rfl;dsimp only;refine bE (P:=λd=>d=(a5 (kB l++ahf F (L-F)),())) ?_ ?_
 ·refine bS (L-F) (λb d=>d=(((F+b:X):Z),a5 (kB l++ahf F b),())) ?_ ?_ ?_
  ·grind
  ·rintro b _ i rfl;dsimp only;rw[aY (aH (aa:((F+b:X):Z)<(L:Z))),bk aa];rw[eB (by grind [fI]),bN];refine bu.2 ?_;rw[akn,<-ahP,oo (kB l++ahf F b),amH];rfl
  rintro _ rfl;dsimp only;rw[a1 (aF (aa:¬(((F+(L-F):X):Z)<(L:Z))))];grind [bu]
 rintro _ rfl;dsimp only;have m:ay ((L:Z)-(F:Z))=((L-F:X):Z):=(by grind [cK]);rw[m];refine bz (y:=(L-F,rows.length)) ?_ ?_
 ·simp_all [au,bd,Ec,hb]
 dsimp only;rw[cB,eB (by grind [fI]),bN];grind [bg,fI,bu]
section
def NI (R:ahb) (lf:ag8) (a:X):(fe R lf a).length=(eV lf a).length:=by rw[DW,e8]
theorem WG (R:ahb) (lf:ag8) (d:a<b) (h:lf.getD a bq=bp):(fe R lf b)[(eV lf a).length]?=Y (R.getD a 0):=by obtain⟨e,c⟩:=H9 R lf (a+1) (b-(a+1));rw[(aa:a+1+(b-(a+1))=b)] at c;simp_all [xm,au,jb,pC,NI,bd,oQ]
theorem Eb {R:ahb} (h:R[a]?=Y b):(a5 R)[a]?=Y (b:Z):=by show(R.map λ(c:X)=>(c:Z))[a]?=_;grind
theorem Jc {R:ahb} (i:R.Nodup) (j:R.length<=1000) (h:a∈R):zb (a5 R,(a:Z),())=Y (((R.idxOf a:X):Z),())/\R[R.idxOf a]?=Y a:=by have b:R[R.idxOf a]?=Y a:=(by grind);refine⟨VX (by grind [fI]) (Eb b) λc k e=>?_,b⟩;have f:c<R.length:=(by grind);have d:=Eb (bc f);rw[d] at e;have g:R[c]=a:=(by grind);grind
section
variable {R:ahb} {full:X} {lf:ag8} {h:X->X->fZ}
theorem Wr (A:R.Nodup) (E:R.length<=1000) {c:ag8} {h:aR} (t:i9 d a c p h) (ds:∀b∈h.rows,b∈R) {g:X->X->ag6} (cs:∀b e,cL (g b e)):Cc (cF R full lf (fP R λb e=>az (g b e)),Y (cF d a c p),())=Y (cF R full lf (fP R λb e=>if b∈h.rows/\e∈h.rows then az (cH (g b e) (h.s b e)) else az (g b e)),()):=by
 have d7:=t.sm;have ek:=t.ll;have av:=t.rows;have dl:h.rows.Nodup:=(by rw[av];unfold fe;rw[ajw,List.pairwise_map];refine(am4 ?_ ((alr (n:=d.length)).sublist List.filter_sublist));intro d4 d5 B C bx a0;exact bx ((t.inj (aih.1 (amM.1 B).1) (aih.1 (amM.1 C).1)).1 a0));have F:∀b,b<d.length->c.getD b bq=bp->d.getD b 0∈R:=λb k m=>ds _ (t.mem k m);have M:ak (cF d a c p).1=(d.length:Z):=(by rw[bg];exact b3 _ (fI _));have c1:∀b,b<d.length->al (cF d a c p).1 (b:Z)=Y ((d.getD b 0:X):Z):=λb k=>(by rw[fg];show(a5 d)[b]?=_;grind [Eb,bR]);have V:∀b,b<d.length->al (cF d a c p).2.2.1 (b:Z)=Y (c.getD b bq):=λb k=>(by rw[fg];show c[b]?=_;grind);unfold Cc;refine bP.1 ?_;dsimp only;refine bz (y:=cF d a c p) rfl ?_;rw[M,ij aa,bN];refine bz (y:=cF d a c p) rfl ?_;generalize O:cF R full lf (fP R λb e=>az (g b e))=z;generalize d8:(λb=>if c.getD b bq=bp then(R.idxOf (d.getD b 0):Z) else 0)=l;refine bE (P:=λo=>o=(z,aB d.length l,())) ?_ ?_
 ·refine bS d.length (λb o=>o=((b:Z),z,aB d.length (λj=>if j<b then l j else 0),())) ?_ ?_ ?_
  ·grind [jj]
  rotate_left
  ·rintro _ rfl;simp_all [c9,au,bu,a1,aF,aB]
  rintro b _ k rfl;dsimp only;rw[M,aY (aH (aa:(b:Z)<(d.length:Z))),bk aa];refine bE (P:=λo=>o=(z,aB d.length (λj=>if j<b+1 then l j else 0),())) ?_ (by grind [bu]);refine bz (c1 b k) (bz (y:=cF d a c p) rfl (bz (V b k) ?_));have an:∀J,J=l b->aB d.length (eC (λj=>if j<b then l j else(0:Z)) b J)=aB d.length λj=>if j<b+1 then l j else 0:=λJ fl=>c9 λj c2=>by
   by_cases g:j=b
   ·simp_all [gM,au]
   rw[he _ _ g];omega
  cases m:c.getD b bq with
  |true=>
   rw[bG];have bl:z.1=a5 R:=(by rw[<-O];rfl);refine bz (by rw[bl];exact(Jc A E (F b k m)).1) ?_;dsimp only;rw[Fk _ k,an _ (by grind)];grind [bu]
  |false=>
   rw[bO];refine bu.2 ?_;have a3:l b=0:=(by grind);have:=an 0 a3.symm;rw[<-this];have:(aB d.length λj=>if j<b then l j else(0:Z))=aB d.length (eC (λj=>if j<b then l j else(0:Z)) b 0):=c9 λj c2=>by
    by_cases g:j=b
    ·simp_all [gM,aw]
    grind [he]
   grind
 rintro _ rfl;subst O;dsimp only;generalize co:(λb e=>az (cH (g b e) (h.s b e)))=q;generalize cv:(λb e=>az (g b e))=r;have d9:(λb e=>if b∈h.rows/\e∈h.rows then az (cH (g b e) (h.s b e)) else az (g b e))=gP h.rows q r h.rows.length 0:=(by grind [GZ]);have ap:h.rows.length=(eV c d.length).length:=(by rw[av,NI]);have T:ak (aB d.length l)=(d.length:Z):=(by rw[bg,cY]);have I:∀b,b<d.length->c.getD b bq=bp->∃el:(eV c b).length<h.rows.length,h.rows[(eV c b).length]=d.getD b 0:=λb k m=>(by have d6:=WG d c k m;grind);refine bE (P:=λo=>o=(cF R full lf (fP R (gP h.rows q r h.rows.length 0)),())) ?_ (by grind [bu]);refine bS d.length (λb o=>o=((b:Z),cF R full lf (fP R (gP h.rows q r (eV c b).length 0)),aB d.length l,())) ?_ ?_ ?_
 ·rw[show(eV c 0).length=0 from rfl,G3];rfl
 rotate_left
 ·rintro _ rfl;dsimp only;rw[T,a1 (aF (aa:¬(d.length:Z)<(d.length:Z))),ap];grind [bu]
 rintro b _ k rfl;dsimp only;rw[T,aY (aH (aa:(b:Z)<(d.length:Z))),bk aa];refine bE (P:=λo=>o=(cF R full lf (fP R (gP h.rows q r (eV c (b+1)).length 0)),aB d.length l,())) ?_ (by grind [bu]);refine bS d.length (λe o=>o=((e:Z),cF R full lf (fP R (gP h.rows q r (eV c b).length (if c.getD b bq=bp then(eV c e).length else 0))),aB d.length l,())) ?_ ?_ ?_
 ·simp_all [eV]
 rotate_left
 ·rintro _ rfl;dsimp only;rw[a1 (aF (aa:¬(d.length:Z)<(d.length:Z)))];refine bu.2 ?_;rw[DV];by_cases m:c.getD b bq=bp
  ·rw[au m,au m,ku,rW,<-ap];rw[G2 (I b k m).1]
  grind
 rintro e _ u rfl;dsimp only;rw[aY (aH (aa:(e:Z)<(d.length:Z))),bk aa];refine bE (P:=λo=>o=(cF R full lf (fP R (gP h.rows q r (eV c b).length (if c.getD b bq=bp then(eV c (e+1)).length else 0))),aB d.length l,())) ?_ (by grind [bu]);generalize N:fP R (gP h.rows q r (eV c b).length (if c.getD b bq=bp then(eV c e).length else 0))=w;refine bz (y:=(c.getD b bq&&c.getD e bq,cF R full lf w,aB d.length l,())) ?_ ?_
 ·refine ah (y:=cF d a c p) rfl (ah (V b k) ?_);cases m:c.getD b bq with
  |true=>
   grind
  |false=>
   grind
 dsimp only;by_cases m:c.getD b bq=bp
 rotate_left
 ·simp_all [aw,bu,akH,bO]
 by_cases v:c.getD e bq=bp
 rotate_left
 ·simp_all [DV,aw,bu,Bool.and_false,bO]
 rw[m,v,ajY,bG];obtain⟨B,Q⟩:=I b k m;obtain⟨C,U⟩:=I e u v;rw[b9 m] at N;obtain⟨_,G⟩:=Jc A E (F b k m);obtain⟨_,H⟩:=Jc A E (F e u v);have S:l b=((R.idxOf (d.getD b 0):X):Z):=(by grind);have ci:l e=((R.idxOf (d.getD e 0):X):Z):=(by grind);have eq:=(ahT.1 G).1;have ex:=(ahT.1 H).1;generalize R.idxOf (d.getD b 0)=d1 at*;generalize R.idxOf (d.getD e 0)=o at*;obtain⟨d2,x,fp,db⟩:=E1 (gP h.rows q r (eV c b).length (eV c e).length) G H;have D:=JX A (gP h.rows q r (eV c b).length (eV c e).length) G H (q (d.getD b 0) (d.getD e 0)) x;have K:=G0 (f:=q) (g:=r) B C;rw[Q,U] at K;rw[<-K] at D;have L:=G1 (f:=q) (g:=r) dl B C;rw[Q,U] at L;rw[L] at db;have em:w.length=R.length:=(by grind [JW]);rw[N] at x D;have ad:=eT (n:=w.length) (i:=d1) aa;have am:=eT (n:=d2.length) (i:=o) aa;obtain⟨d3,d0,fn⟩:=t.ent b e k u m v;have ce:=L0 (cs (d.getD b 0) (d.getD e 0)) (t.okd _ (t.mem k m) _ (t.mem u v));subst co cv;have a4:(cF R full lf w).2.2.2.1=w:=rfl;rw[xP _ k,a4,S];refine bz ad ?_;rw[xP _ u,xP _ k,S];refine bz ad ?_;rw[xP _ u,ci,gn x,bN];refine bz am ?_;rw[gn x,gn db,bN];refine bz (y:=cF d a c p) rfl (bz (y:=d3) (by rw[fg];exact d0) (bz (y:=az (h.s (d.getD b 0) (d.getD e 0))) (by grind [fg]) (bz ce ?_)));dsimp only;refine bz am ?_;rw[gn x,gn db];refine bu.2 ?_;dsimp only;rw[D,DV,b9 v,ahO,ajx,b9 bn];rfl
end
end
theorem Xr (b:∀a∈f,0<=a):a5 (f.map ahK)=f:=by
 unfold a5;rw[oL]
 conv=>rhs;rw[<-List.map_id f]
 refine ik λa c=>?_;grind
theorem Nh (c:X->X) (a:X) (b:ahb):(nE c a b).Perm (a::b):=by grind [amN,nE]
theorem QI (c:X->X):∀(b a:ahb),(b.foldl (λa p=>nE c p a) a).Perm (b++a)
 |[],a=>aju _
 |p::b,a=>by rw[yk];refine(QI c b _).trans ?_;grind [List.perm_middle,ajX,Nh]
def QH (b:X->X) (a:ahb):(mI b a).Perm a:=by have:=QI b a [];rwa[oJ] at this
theorem V2 {c:X->X} (k:d.Pairwise λb e=>c b<c e) (o:∀b∈d,c b≠c a):(nE c a d).Pairwise λb e=>c b<c e:=by
 unfold nE;have l:∀b∈d.takeWhile (λb=>br (c b<c a)),c b<c a:=λb f=>aiP (Ir (p:=λb=>br (c b<c a)) f);have m:∀b∈d.dropWhile (λb=>br (c b<c a)),c a<c b:=by
  intro b f;have j:d.dropWhile (λb=>br (c b<c a))≠[]:=List.ne_nil_of_mem f;have i:=amK (λb=>br (c b<c a)) j;rw[aj3] at i;have n:(d.dropWhile λb=>br (c b<c a)).Pairwise λb e=>c b<c e:=k.sublist (amO _);have q:∀e∈d.dropWhile (λb=>br (c b<c a)),e∈d:=λe h=>(amO _).subset h;generalize d.dropWhile (λb=>br (c b<c a))=g at*;cases g with
  |nil=>cases f
  |cons e g=>
   grind [ai7]
 grind [ai7,amN]
theorem QJ {b:X->X}:∀{e d:ahb},d.Pairwise (λa c=>b a<b c)->(∀a∈d,∀c∈e,b a≠b c)->e.Pairwise (λa c=>b a≠b c)->(e.foldl (λd p=>nE b p d) d).Pairwise λa c=>b a<b c
 |[],d,f,_,_=>f
 |p::e,d,f,i,g=>by rw[yk];rw[mP] at g;refine QJ (V2 f λa h=>i a h p ac) (λa h c j=>?_) g.2;grind [Nh]
theorem QD {e:X->X}:∀{a b:ahb},a.Perm b->a.Pairwise (λx d=>e x<e d)->b.Pairwise (λx d=>e x<e d)->a=b
 |[],b,c,_,_=>c.nil_eq
 |x::a,[],c,_,_=>absurd c.length_eq ac
 |x::a,d::b,c,f,g=>by rw[mP] at f g;have h:x=d:=(by grind);subst h;rw[QD (List.perm_cons x|>.1 c) f.2 g.2]
theorem oS.key (a:Z->Z):oS λd e=>br (a d<a e):=⟨λb c g=>by grind,λb c f h i=>by grind⟩
def V3 (c:ahc) (a b:Z) (d:bv aA) (e:bv eF):Gz (c,a,b,(d,e,()),())=DO (λf g=>uq (f,g,d,e,())) c a b:=rfl
def aaL (a:ahc) (e:Z) (c:bv aA) (d:bv eF) (i:a.length<=12) {b:ahc×bt} (f:DO (λg h=>uq (g,h,c,d,())) a 0 (a.length:Z)=Y b):CI (a,0,(a.length:Z),e,(c,d,()),())=Y b:=by obtain⟨b,_⟩:=b;unfold CI;dsimp only;rw[DZ];dsimp only;rw[aY (aH (show ay ((a.length:Z)-0)<=12 by rw[aj6,cK aa aa];omega)),V3,f];rfl
def Tr {e:X->X} (i:∀c∈d,c<a) (g:b<d.length) (h:j<d.length):uq ((b:Z),(j:Z),Y (aB a λc=>(e c:Z)),Y (a5 d,f,()),())=Y (fE (e d[b]:Z) (e d[j]:Z),()):=by unfold uq;refine ah (y:=aB a λc=>(e c:Z)) rfl (ah (y:=(a5 d,f,())) rfl (ah (m2 g) (ah (rj (i _ (cO g))) ?_)));refine ah (y:=aB a λc=>(e c:Z)) rfl (ah (y:=(a5 d,f,())) rfl (ah (m2 h) (ah (rj (i _ (cO h))) ?_)));exact ah (BF _ _) rfl
theorem Ts:fE c k<0↔c<k:=by grind [fE]
theorem acM {n:X} {f:X->X} {rows:ahb} (N:∀g∈rows,g<n) (M:rows.length<=12) (o:rows.Pairwise λd c=>f d≠f c) (w:ahc):∃b:ahb,CF (a5 (bH rows.length),(Y (aB n λg=>(f g:Z)),Y (a5 rows,w,()),()),())=Y (a5 b,())/\(∀a∈b,a<rows.length)/\b.length=rows.length/\b.map (λa=>rows.getD a 0)=mI f rows:=by
 have s:(a5 (bH rows.length)).length=rows.length:=(by rw[fI,lR]);obtain⟨⟨b,⟨⟩⟩,G,y,C,B,e⟩:=V0 (cmp:=λh x=>uq (h,x,Y (aB n λg=>(f g:Z)),Y (a5 rows,w,()),())) (oS.key λh=>(f (rows.getD h.toNat 0):Z)) (a5 (bH rows.length)) (by
  intro h x j I;obtain⟨d,l,rfl⟩:=eP.1 j;obtain⟨c,m,rfl⟩:=eP.1 I;simp_all [mi,bc,Ts,ahD,Tr,h9]) aa
 dsimp only at C e;obtain⟨c,m⟩:=Kw rows.length aa;have P:b=a5 (b.map ahK):=(Xr λh j=>by
  obtain⟨Q,_,rfl⟩:=eP.1 (e.mem_iff.1 j);omega).symm
 have F:(b.map ahK).Perm (bH rows.length):=(by have:=e.map ahK;rwa[show(a5 (bH rows.length)).map ahK=bH rows.length by simp[a5,Function.comp_def]] at this);have D:∀a∈b.map ahK,a<rows.length:=λa i=>aih.1 (F.mem_iff.1 i);have E:(b.map ahK).map (λa=>rows.getD a 0)=mI f rows:=(by have J:((bH rows.length).map λa=>rows.getD a 0)=rows:=(by refine List.ext_getElem? λa=>?_;grind);have k:((b.map ahK).map λa=>rows.getD a 0).Perm rows:=(by grind);have t:((b.map ahK).map λa=>rows.getD a 0).Pairwise λd c=>f d≠f c:=(k.symm.pairwise o λz=>z.symm);refine QD (k.trans (QH f rows).symm) ?_ (QJ ajL (λd l=>by cases l) o);rw[ahh] at t|-;intro u v p r q;have O:b.length=rows.length:=(by rw[e.length_eq,s]);have K:=t u v p r q;simp only[cj] at p r;have A:=B u v q aa;rw[aj3] at A;have L:∀a,(i:a<b.length)->y a=b[a]:=λa i=>(by grind [ah0,ju,bR,aB,a5,bH]);grind);refine⟨b.map ahK,?_,D,by rw[cj,e.length_eq,s],E⟩;unfold CF;have H:aJ (ak (a5 (bH rows.length)))=(rows.length:Z):=(by grind [Kh,bg]);dsimp only;rw[H];refine ah m ?_;dsimp only;rw[bg];refine ah (aaL _ c _ _ aa G) ?_;grind
def hW (a:m9):eF:=(a5 a.1,a.1.map a.2,())
theorem aaT (bl:t.length=a) (eq:a<=12) {q:bm a7} (F:(q.flatMap a7.cD).Perm (bH a)) (G:∀k∈q,tN (bH a) k) (del:Z) (co:bv (Z×((bm aA×bt)×(bm (bv (bm (Z×cU)×X))×bt)))):Cn (Y (co,(a5 (q.flatMap a7.cD),(q.map (λk=>(k.cD.length:Z)),(q.flatMap (·.d),((q.flatMap a7.c3).map hW,(del,())))))),t,())=Y (ly t q del,()):=by
 obtain⟨fs,ft,fz⟩:=At G;have T:(q.flatMap a7.cD).length=a:=(by rw[F.length_eq,ah8]);have d6:(q.flatMap a7.cD).Nodup:=F.nodup_iff.2 alr;have I:∀e,e∈q.flatMap a7.cD↔e<a:=λe=>(by rw[F.mem_iff,aih]);have C:∀s∈q.flatMap a7.c3,s.1.Nodup/\∀o∈s.1,o<a:=λs u=>(by obtain⟨k,N,u⟩:=ajy.1 u;obtain⟨j,_,rfl⟩:=ajv.1 u;exact⟨(G k N).nd,λo x=>aih.1 ((G k N).sub o x)⟩);unfold Cn ly;refine bP.1 ?_;dsimp only;generalize d5:q.flatMap a7.cD=i at*;generalize d3:q.flatMap a7.c3=h at*;generalize q.map (λk=>(k.cD.length:Z))=jE;generalize q.flatMap (·.d)=v;rw[show ak t=(a:Z) by rw[bg,bl],ij aa,bN,bN,bN,bN,bN];dsimp only;have U:ak (a5 i)=(a:Z):=(by rw[bg,fI,T]);refine bE (P:=λk=>k=(([],([],([],([],([],([],((0:Z),()))))))),aB a (λe=>(i.idxOf e:Z)),(i.map (λe=>t.getD e 0),(jE,(v,([0],(([]:aA),(([]:aA),(del,()))))))),())) ?_ ?_
 ·refine bS a (λb k=>k=((b:Z),([],([],([],([],([],([],((0:Z),()))))))),aB a (λe=>if e∈i.take b then(i.idxOf e:Z) else 0),((i.take b).map (λe=>t.getD e 0),(jE,(v,([0],(([]:aA),(([]:aA),(del,()))))))),())) ?_ ?_ ?_
  ·grind [jj,c9]
  ·rintro b _ B rfl;dsimp only;have M:b<i.length:=aa;rw[U,aY (aH (aa:(b:Z)<(a:Z))),bk aa];have bx:i[b]<a:=(I _).1 (b6 M);have a3:i.idxOf i[b]=b:=by
    grind
   refine bz (m2 M) ?_;rw[Fk _ bx];refine bz (hj aa) ?_;rw[eB (by grind),aC];refine bu.2 ?_;have ao:i.take (b+1)=i.take b++[i[b]]:=(by simp_all);have d1:(aB a (eC (λe=>if e∈i.take b then(i.idxOf e:Z) else 0) i[b] (b:Z)))=aB a λe=>if e∈i.take (b+1) then(i.idxOf e:Z) else 0:=by
    refine c9 λe ex=>?_;rw[ao];by_cases A:e=i[b]
    ·rw[A,gM,au (lm _ (gj.2 bn)),a3]
    grind [he,ahk]
   grind
  rintro _ rfl;simp_all [c9,au,bu,a1,aF,fK,aB]
 rintro _ rfl;dsimp only;have em:∀j z,j<a->z<a->i.idxOf j=i.idxOf z->j=z:=λj z V d8 ds=>(by have S:=List.getElem_idxOf (amx.2 ((I j).2 V));grind);generalize am:(λe=>i.idxOf e)=g at*;have an:(λe=>(i.idxOf e:Z))=λe=>(g e:Z):=(by grind);have ek:∀e,i.idxOf e=g e:=λe=>(by rw[<-am]);rw[an];generalize i.map (λe=>t.getD e 0)=y;rw[bN];dsimp only;have J:ak (h.map hW)=(h.length:Z):=(by grind);have ce:∀s∈h,s.1.length<=12:=λs u=>(by have:=(C s u).1.length_le_of_subset (l₂:=bH a) λo x=>aih.2 ((C s u).2 o x);grind);have ad:∀p:bm m9,(∀s∈p,s∈h)->p.length<=100->(p.flatMap (gE g)).length<=10000/\(p.flatMap (ip g)).length<=10000:=λp S d2=>(by grind [Dw,cj,rF,ip,gE]);refine bE (P:=λk=>k=(([],([],([],([],([],([],((0:Z),()))))))),(y,(jE,(v,(ke (gE g) h,(h.flatMap (gE g),(h.flatMap (ip g),(del,()))))))),())) ?_ (by grind [bu]);refine bS h.length (λb k=>k=((b:Z),([],([],([],([],([],([],((0:Z),()))))))),aB a (λe=>(g e:Z)),(y,(jE,(v,(ke (gE g) (h.take b),((h.take b).flatMap (gE g),((h.take b).flatMap (ip g),(del,()))))))),())) rfl ?_ ?_
 rotate_left
 ·rintro _ rfl;dsimp only;rw[J,a1 (aF (aa:¬(h.length:Z)<(h.length:Z))),cB];grind [bu]
 rintro b _ B rfl;dsimp only;rw[J,aY (aH (aa:(b:Z)<(h.length:Z))),bk aa];have K:=b6 B;have a4:h.take (b+1)=h.take b++[h[b]]:=(by simp_all);have ap:al (h.map hW) (b:Z)=Y (hW h[b]):=(by grind [fg,bR]);obtain⟨c2,dl⟩:=ad (h.take b) (λs u=>amL u) (by grind);have w:=C _ K;have D:=ce _ K;have fn:(ke (gE g) (h.take b)).length<=1000:=(by grind [cj,ah8,aho,ke]);have fl:=Lu (gE g) (h.take b) h[b];rw[a4];generalize h[b]=s at*;generalize h.take b=p at*;refine bz ap ?_;obtain⟨c,j⟩:=s;have D:c.length<=12:=D;have w:c.Nodup/\∀o∈c,o<a:=w;have ci:ak (hW (c,j)).1=(c.length:Z):=(by rw[bg];exact b3 _ (fI _));rw[ci,ij aa,bN];have O:ak (bJ c.length (0:Z))=(c.length:Z):=(by grind);generalize d9:((y,(jE,(v,(ke (gE g) p,(p.flatMap (gE g),(p.flatMap (ip g),(del,()))))))):dd)=H;refine bE (P:=λk=>k=(([],([],([],([],([],([],((0:Z),()))))))),aB a (λe=>(g e:Z)),H,hW (c,j),a5 (bH c.length),())) ?_ ?_
 ·refine bS c.length (λo k=>k=((o:Z),([],([],([],([],([],([],((0:Z),()))))))),aB a (λe=>(g e:Z)),H,hW (c,j),aB c.length (λb=>if b<o then(b:Z) else 0),())) ?_ ?_ ?_
  ·grind [jj]
  ·rintro o _ x rfl;dsimp only;rw[O,aY (aH (aa:(o:Z)<(c.length:Z))),bk aa,Fk _ x];refine bu.2 ?_;have:aB c.length (eC (λb:X=>if b<o then(b:Z) else 0) o (o:Z))=aB c.length λb=>if b<o+1 then(b:Z) else 0:=c9 λb _=>by
    by_cases A:b=o
    ·subst A;rw[gM,au aa]
    rw[he _ _ A];omega
   grind
  rintro _ rfl;dsimp only;rw[O,a1 (aF (aa:¬(c.length:Z)<(c.length:Z)))];refine bu.2 ?_;have:(aB c.length λb:X=>if b<c.length then(b:Z) else 0)=a5 (bH c.length):=c9 λb B=>b9 B;grind
 rintro _ rfl;dsimp only;obtain⟨r,cs,cv,c1,aE⟩:=acM (n:=a) (f:=g) (rows:=c) w.2 D (by
  refine tD ?_ w.1;grind) (c.map j)
 refine bz cs ?_;dsimp only;have R:ak (a5 r)=(c.length:Z):=(by rw[bg,fI,c1]);have d4:∀m,m<r.length->(gE g (c,j))[m]?=Y (g (c.getD (r.getD m 0) 0):Z):=λm L=>(by grind [bR,gE]);have d7:∀m,m<r.length->(ip g (c,j))[m]?=Y (j (c.getD (r.getD m 0) 0)):=λm L=>(by grind [bR,ip]);have el:(gE g (c,j)).length=c.length:=(by grind [cj,rF,gE]);have fp:(ip g (c,j)).length=c.length:=(by grind [cj,rF,ip]);refine bE (P:=λk=>k=(([],([],([],([],([],([],((0:Z),()))))))),aB a (λe=>(g e:Z)),(y,(jE,(v,(ke (gE g) p,(p.flatMap (gE g)++gE g (c,j),(p.flatMap (ip g)++ip g (c,j),(del,()))))))),())) ?_ ?_
 ·refine bS c.length (λm k=>k=((m:Z),([],([],([],([],([],([],((0:Z),()))))))),aB a (λe=>(g e:Z)),(y,(jE,(v,(ke (gE g) p,(p.flatMap (gE g)++(gE g (c,j)).take m,(p.flatMap (ip g)++(ip g (c,j)).take m,(del,()))))))),hW (c,j),a5 r,())) ?_ ?_ ?_
  ·grind
  ·rintro m _ L rfl;dsimp only;have E:m<r.length:=aa;rw[R,aY (aH (aa:(m:Z)<(c.length:Z))),bk aa,qh E];have Q:=cv _ (b6 E);have av:al (hW (c,j)).1 ((r[m]:X):Z)=Y ((c[r[m]]:X):Z):=m2 Q;have a0:al (hW (c,j)).2.1 ((r[m]:X):Z)=Y (j c[r[m]]):=by
    rw[fg];show(c.map j)[r[m]]?=_;grind
   refine bz av ?_;rw[xP _ (w.2 _ (cO Q)),eB (by grind),aC];refine bz a0 ?_;rw[eB (by grind),aC];refine bu.2 ?_;have d0:c.getD (r.getD m 0) 0=c[r[m]]:=(by rw[mi (l:=r),bc E];grind);grind [ahP,ct]
  rintro _ rfl;dsimp only;rw[R,a1 (aF (aa:¬(c.length:Z)<(c.length:Z))),ck aa,ck aa];grind [bu]
 rintro _ rfl;dsimp only;rw[eB (by grind),bN];grind [bg,bu]
section
theorem NK (b:ahb):∀{a},a<=b.length->fe b (bJ b.length bp) a=b.take a:=by
 intro a
 induction a with
 |zero=>intro _;rfl
 |succ a c=>
  intro d;rw[xm,c aa,au (by grind),hR,bc aa,mi,bc aa];rfl
theorem i9.start {a:aR} (b:kt a) (g:a.rows.length<=1000):i9 a.rows a.full (bJ a.rows.length bp) (fP a.rows λc d=>az (a.s c d)) a where
 ll:=qD ..
 nd:=b.nd
 sm:=g
 fl:=b.full
 rows:=by rw[NK _ (bd _),hS]
 full:=by rw[NK _ b.full,gh];have:=b.full;omega
 okd:=b.okd
 ent:=λc d e f _ _=>by obtain⟨j,h,_,i⟩:=E1 (λc d=>az (a.s c d)) (bc e) (bc f);grind
section
variable {G:ew} {l:bm dc} {n t:X} {L:X->aR} {ps:bm a7} {A:X->X->ag6}
theorem T7 (d:ix n l t):(gR l (t:Z)).drop (fU l t)=a5 (ko l t):=by
 refine hQ λa=>?_;have c:(a5 (ko l t))[a]?=((ko l t)[a]?).map λ(b:X)=>(b:Z):=(by show((ko l t).map λ(b:X)=>(b:Z))[a]?=_;grind);rw[pD,c];unfold ko;rw[jn];by_cases e:fU l t+a<hF l t
 ·rw[d.get _ e,List.getElem?_range' aa];simp
 grind [aiT,alq,hF]
structure KD (n:X) (c:li) (y:aR):Prop where
 r:i9 c.R c.full c.lf c.M y
 len:c.R.length<=n
theorem SR (M:hO G l) (T:G.length=n) (a0:t<l.length) (J:jX l n t L ps) (S:∀b d,cL (A b d)) (fs:n<=64) {x:X->li} (K:∀e,e<t->KD n (x e) (L e)) (bx:∀b d:X,b<n->d<n->wY (o,(b:Z),(d:Z),())=Y (az (A b d),())):Ca (o,((be l t:Z),(be l (t+1):Z),gR l (t:Z),gu l t,()),(ez l t t).map (λe=>(x e).enc),())=Y (cF (gG A l L t).rows (gG A l L t).full (bJ (gG A l L t).rows.length bp) (fP (gG A l L t).rows λb d=>az ((gG A l L t).s b d)),0,()):=by
 have u:=ix.of M T a0;have fn:l.length<=n:=(by have:=Dz M;omega);have ad:=wh A L t (l:=l);have U:∀b∈(gG A l L t).rows,b<n:=λb m=>J.wg A u m;have d7:=J.Bx A S u;have N:=(J.tU S u).nd;have d9:=u.ws;have fz:=u.own;have O:∀e∈ez l t t,e<t:=λe D=>(uX.1 D).1;have ek:(ez l t t).length<=t:=(by grind [cA,ahF,ez]);have ds:(be l (t+1)-be l t)=fU l t:=rfl;have Q:=ab9 (l:=(ez l t t).map x) (F:=be l t) (L:=be l (t+1)) (rows:=gR l (t:Z)) (par:=gu l t) (λe D=>by
  obtain⟨c,B,rfl⟩:=eP.1 D;have:=K c (O c B);exact⟨this.r.ll,this.r.fl,by have:=this.len;omega⟩) (by grind) aa aa (by have:=u.Oq;grind [hF]) (by have:=u.Bc;grind [hF])
 have co:kB ((ez l t t).map x)=(ez l t t).flatMap λe=>(L e).rows.take (L e).full:=(by unfold kB;rw[List.flatMap_map];refine MK λe D=>?_;exact(K e (O e D)).r.take.symm);rw[List.map_map,co,ds,T7 u] at Q;have ao:a5 ((ez l t t).flatMap (λe=>(L e).rows.take (L e).full)++ahf (be l t) (fU l t))++a5 (ko l t)=a5 (gG A l L t).rows:=(by rw[<-oo,ad.1];rfl);have a4:((ez l t t).flatMap (λe=>(L e).rows.take (L e).full)++ahf (be l t) (fU l t)).length=(gG A l L t).full:=ad.2.symm;rw[ao,a4] at Q;unfold Ca;refine bP.1 ?_;refine bz Q ?_;dsimp only;generalize d6:(gG A l L t).rows=a at*;generalize eq:(gG A l L t).full=j at*;have ce:ak (a5 a)=(a.length:Z):=(by rw[bg,fI]);rw[ce,a1 (aF (aa:¬(a.length:Z)>64)),ij aa,bN,bN];generalize a3:bJ a.length ((bq,((bq,(([]:ahc),())),((0:Z),()))):cU)=q;refine bE (P:=λi=>i=(cF a j (bJ a.length bp) (fP a λ_ _=>az (Y 0)),())) ?_ ?_
 ·refine bS a.length (λb i=>i=((b:Z),cF a j (aB a.length λc=>br (c<b)) (aB a.length λc=>if c<b then q else[]),())) ?_ ?_ ?_
  ·have z:(aB a.length λc=>br (c<0))=bJ a.length bq:=(by grind [c9,ahN,jj]);have H:(aB a.length λc=>if c<0 then q else[])=bJ a.length []:=(by simp_all [c9,aw,jj]);rw[z,H];rfl
  ·rintro b _ m rfl;dsimp only;rw[aY (aH (aa:(b:Z)<(a.length:Z))),bk aa,bN];have c1:(cF a j (aB a.length λc=>br (c<b)) (aB a.length λc=>if c<b then q else[])).2.2.1=aB a.length λc=>br (c<b):=rfl;rw[c1];refine bz (eT (by grind [cY])) ?_;rw[gn (ju m),hC];refine bz bn ?_;dsimp only;have c2:(cF a j (aB a.length λc=>br (c<b)) (aB a.length λc=>if c<b then q else[])).2.2.2.1=aB a.length λc=>if c<b then q else[]:=rfl
   rw[c2];refine bz (eT (by grind [cY])) ?_;rw[gn (ju m),hC];refine bz bn ?_;refine bu.2 ?_;have z:aB a.length (eC (λc=>br (c<b)) b bp)=aB a.length λc=>br (c<b+1):=c9 λc _=>by
    by_cases v:c=b
    ·grind [gM,ahg]
    rw[he _ _ v,cu];omega
   have H:aB a.length (eC (λc=>if c<b then q else[]) b q)=aB a.length λc=>if c<b+1 then q else[]:=c9 λc _=>by
    by_cases v:c=b
    ·simp_all [gM,au]
    rw[he _ _ v];grind
   rw[a3,z,H];rfl
  rintro _ rfl;dsimp only;rw[a1 (aF (aa:¬(a.length:Z)<(a.length:Z)))];refine bu.2 ?_;have z:(aB a.length λc=>br (c<a.length))=bJ a.length bp:=(by grind [c9,ahg,jj]);have H:(aB a.length λc=>if c<a.length then q else[])=fP a λ_ _=>az (Y 0):=(by have bl:(aB a.length λc=>if c<a.length then q else[])=aB a.length λ_=>q:=c9 λc B=>b9 B;have I:q=a.map λ_=>az (Y 0):=(by rw[<-a3];exact(alf ..).symm);rw[bl,Mz a λ_=>q,I];rfl);grind
 rintro _ rfl;dsimp only;generalize ex:bJ a.length bp=lf;refine bE (P:=λi=>i=(cF a j lf (fP a λb d=>az (hy A l t b d)),())) ?_ ?_
 ·generalize an:(λb d=>az (hy A l t b d))=h;generalize cv:(λ(_ _:X)=>az (Y 0))=k;have cs:fP a h=fP a (gP a h k a.length 0):=by
   rw[GZ];simp_all [QW,au]
  rw[cs];refine bS a.length (λb i=>i=((b:Z),cF a j lf (fP a (gP a h k b 0)),())) ?_ ?_ ?_
  ·rw[G3];rfl
  rotate_left
  ·rintro _ rfl;dsimp only;rw[a1 (aF (aa:¬(a.length:Z)<(a.length:Z)))];grind [bu]
  rintro b _ m rfl;dsimp only;rw[aY (aH (aa:(b:Z)<(a.length:Z))),bk aa];refine bE (P:=λi=>i=(cF a j lf (fP a (gP a h k b a.length)),())) ?_ (by grind [bu,G2]);refine bS a.length (λd i=>i=((d:Z),cF a j lf (fP a (gP a h k b d)),())) rfl ?_ ?_
  rotate_left
  ·rintro _ rfl;dsimp only;rw[a1 (aF (aa:¬(a.length:Z)<(a.length:Z)))];grind [bu]
  rintro d _ w rfl;dsimp only;rw[aY (aH (aa:(d:Z)<(a.length:Z))),bk aa];refine bE (P:=λi=>i=(cF a j lf (fP a (gP a h k b (d+1))),())) ?_ (by grind [bu]);have ft:=G1 (f:=h) (g:=k) N m w;have av:=G0 (f:=h) (g:=k) m w;obtain⟨fT,R,f0,db⟩:=E1 (gP a h k b d) (bR m) (bR w);have I:=JX N (gP a h k b d) (bR m) (bR w) (h a[b] a[d]) R;rw[<-av] at I;have fp:(fP a (gP a h k b d)).length=a.length:=JW _ _;have d1:h a[b] a[d]=k a[b] a[d]->fP a (gP a h k b d)=fP a (gP a h k b (d+1)):=λel=>(by rw[av];refine QW λd4 _ d5 _=>?_;grind);generalize d8:fP a (gP a h k b d)=E at*;have V:(cF a j lf E).1=a5 a:=rfl;have ci:(cF a j lf E).2.2.2.1=E:=rfl;rw[V,qh m,qh w];have dl:(if((a[d]:X):Z)<((a[b]:X):Z) then((a[d]:X):Z) else((a[b]:X):Z))=((min a[b] a[d]:X):Z):=aa;rw[dl];refine bz (y:=(br (be l t<=min a[b] a[d]/\min a[b] a[d]<be l (t+1)),cF a j lf E,())) ?_ ?_
  ·by_cases v:be l t<=min a[b] a[d]
   ·rw[aY (by grind)];rw[cu.2 (aa:((min a[b] a[d]:X):Z)<(be l (t+1):Z)↔be l t<=min a[b] a[d]/\min a[b] a[d]<be l (t+1))]
   grind
  dsimp only;by_cases v:be l t<=min a[b] a[d]/\min a[b] a[d]<be l (t+1)
  ·rw[aY (aH v),ci];have d3:az (A a[b] a[d])=h a[b] a[d]:=(by rw[<-an];dsimp only;unfold hy;grind);refine bz (eT aa) ?_;rw[V,qh m,qh w];refine bz (bx _ _ (U _ (b6 m)) (U _ (b6 w))) ?_;dsimp only;rw[gn R,bN];refine bz (eT aa) ?_;rw[gn R,gn db,d3];refine bz bn ?_;refine bu.2 ?_;dsimp only;rw[I];rfl
  rw[a1 (aF v)];refine bu.2 ?_;rw[d1 (by rw[<-an,<-cv];dsimp only;unfold hy;grind)]
 rintro _ rfl;dsimp only;have em:∀C:ahb,(C.foldl (λp e=>p.plus (L e)) (jL A l L t)).rows=a:=λC=>(by simp_all [Ar,jL]);have d0:∀(C:ahb) b d,cL ((C.foldl (λp e=>p.plus (L e)) (jL A l L t)).s b d):=λC=>Ey L _ _ λb d=>by
  show cL (if _ then _ else _);split
  ·grind
  exact Al
 refine bE (P:=λi=>i=(cF a j lf (fP a λb d=>az ((gG A l L t).s b d)),())) ?_ (by grind [bu]);have am:ak ((ez l t t).map λe=>(x e).enc)=((ez l t t).length:Z):=(by grind);refine bS (ez l t t).length (λc i=>i=((c:Z),cF a j lf (fP a λb d=>az ((((ez l t t).take c).foldl (λp e=>p.plus (L e)) (jL A l L t)).s b d)),())) rfl ?_ ?_
 rotate_left
 ·rintro _ rfl;dsimp only;rw[am,a1 (aF (aa:¬((ez l t t).length:Z)<((ez l t t).length:Z))),cB];exact bu.2 bn
 rintro c _ B rfl;dsimp only;rw[am,aY (aH (aa:(c:Z)<((ez l t t).length:Z))),bk aa];have ap:=b6 B;refine bz (y:=(x (ez l t t)[c]).enc) (by grind [fg,bR]) ?_;have d2:∀b∈(L (ez l t t)[c]).rows,b∈a:=λb m=>(by have:=J.child A M T a0 ap m;grind);have z:=Wr (full:=j) (lf:=lf) N aa (K _ (O _ ap)).r d2 (g:=(((ez l t t).take c).foldl (λp e=>p.plus (L e)) (jL A l L t)).s) (d0 _);refine bz z ?_;refine bu.2 ?_;rw[ct,bR B,amI];have:(λb d=>if b∈(L (ez l t t)[c]).rows/\d∈(L (ez l t t)[c]).rows then az (cH ((((ez l t t).take c).foldl (λp e=>p.plus (L e)) (jL A l L t)).s b d) ((L (ez l t t)[c]).s b d)) else az ((((ez l t t).take c).foldl (λp e=>p.plus (L e)) (jL A l L t)).s b d))=λb d=>az (((((ez l t t).take c).foldl (λp e=>p.plus (L e)) (jL A l L t)).plus (L (ez l t t)[c])).s b d):=(by funext b d;show _=az (if _ then _ else _);grind);simp_all
end
end
def xN (l:Z->bv (cU×bt)) (r:bv c0) (f:aA) (q:cU):bv (eF×gm×Z×bt):=
 (loop (σ:=(Z×eF×eF×gm×bt)) (ρ:=((eF×eF×gm×bt)⊕(eF×gm×Z×bt))) (λ(e,h,a,d,_)=>
  bif br (e<ak f) then
 (al f e).bind λi=>
 (l i).bind λ(o,_)=>
 (sj (o,q,0,())).bind λ(b,_)=>
 (nz (b,())).bind λ(p,_)=>
  bif !p then
 Y (.inr (.inr (a,[],233,()))) else
  r.bind λs=>
 (al s.1 i).bind λc=>
 (cG ((a.1).length+([c]).length)).bind λ_=>
 (cG ((a.2.1).length+([b]).length)).bind λ_=>
 (j2 (b,())).bind λ(g,_)=>
 (cG (d.length+([g]).length)).bind λ_=>
 Y (.inl (aP e,h,(((a.1++[c]),a.2).1,((((a.1++[c]),a.2).2.1++[b]),((a.1++[c]),a.2).2.2)),(d++[g]),())) else
 Y (.inr (.inl (h,a,d,())))) (0,([],([],())),([],([],())),[],())).bind λm=>match m with
 |.inl (_,j,k,_)=>(
 Y (j,k,0,()))
 |.inr n=>Y n
def abc (c:bv c0) (a:aA) (b:cU):Gl (c,a,(),b,())=xN (λd=>Ci (d,())) c a b:=rfl
def abd (e:bv c0) (c:aA) (d:cU) (a:bv (bv c0)) (b:ag6):Gm (e,c,(a,b,()),d,())=xN (λf=>Ch (f,a,b,())) e c d:=rfl
def abe (g:bv c0) (e:aA) (f:cU) (a:bv (bv (bv c0)×bt)) (b c:ag6) (d:bv gm):Gn (g,e,(a,b,c,d,()),f,())=xN (λh=>Ce (h,a,b,c,d,())) g e f:=rfl
def abf (g:bv c0) (e:aA) (f:cU) (a:bv (bv (bv c0)×bt)) (b c:ag6) (d:bv gm):Gp (g,e,(a,b,c,d,()),f,())=xN (λh=>Cf (h,a,b,c,d,())) g e f:=rfl
def qS (b:ahb) (a:ahb) (c:X->Z):eF:=(a5 (a.map λd=>b.getD d 0),a.map c,())
theorem EA {lf:ag8} (x:l.length<=1000) {v:X->ag6} (q:cL w) (n:∀b∈d,b<l.length/\cL (v b)/\N (b:Z)=Y (az (v b),())) (A:d.length<=1000):ae (xN N (Y (cF l a lf p)) (a5 d) (az w)) λi=>((∀b∈d,a8 (fV (v b) w 0)≠2047)/\i=(qS l d λb=>fV (v b) w 0,d.map (λb=>az (a2 (fV (v b) w 0))),0,()))\/((∃b∈d,a8 (fV (v b) w 0)=2047)/\i.2.2.1=233):=by
 have h:ak (a5 d)=(d.length:Z):=(by rw[bg,fI]);unfold xN;refine bE (P:=λe=>((∀b∈d,a8 (fV (v b) w 0)≠2047)/\e=.inl (([],([],())),qS l d λb=>fV (v b) w 0,d.map (λb=>az (a2 (fV (v b) w 0))),()))\/((∃b∈d,a8 (fV (v b) w 0)=2047)/\∃j,e=.inr (j,[],233,()))) ?_ ?_
 ·refine bS d.length (λc e=>(∀b∈d.take c,a8 (fV (v b) w 0)≠2047)/\e=((c:Z),([],([],())),qS l (d.take c) λb=>fV (v b) w 0,(d.take c).map (λb=>az (a2 (fV (v b) w 0))),())) ⟨ac,bn⟩ ?_ ?_
  ·rintro c _ g ⟨f,rfl⟩;dsimp only;rw[h,aY (aH (aa:(c:Z)<(d.length:Z))),bk aa];have o:=b6 g;obtain⟨u,k,m⟩:=n _ o;have B:(d.take c).length<=1000:=(by grind);have r:d.take (c+1)=d.take c++[d[c]]:=(by simp_all);refine bz (m2 g) (bz m (bz (Vh k q) (bz (zU (Av 0)) ?_)));dsimp only;by_cases t:a8 (fV (v d[c]) w 0)=2047
   ·rw[aY (by grind)];grind [bu]
   rw[a1 (by grind)];refine bz (y:=cF l a lf p) rfl (bz (y:=((l.getD d[c] 0:X):Z)) ?_ ?_)
   ·rw[fg];exact Eb (by grind)
   have ao:(qS l (d.take c) λb=>fV (v b) w 0).1.length<=1000:=(by show(a5 _).length<=1000;grind [fI,cj]);have s:(qS l (d.take c) λb=>fV (v b) w 0).2.1.length<=1000:=(by show((d.take c).map _).length<=1000;grind);rw[eB (by grind),bN,eB (by grind),bN];refine bz (qc (Av 0)) ?_;dsimp only;rw[eB (by grind),bN];refine bu.2 ⟨λb z=>?_,?_⟩
   ·grind
   unfold qS;rw[r,iy,iy,iy,oo];rfl
  rintro _ ⟨f,rfl⟩;dsimp only;rw[cB] at f;rw[h,a1 (aF (aa:¬(d.length:Z)<(d.length:Z))),cB];grind [bu]
 grind [bu]
section
def vH (c:X) (x:aR):Prop:=∀a:X,a=65536->∀b∈x.rows,∀d∈x.rows,cR a 3222 3072 c (x.s b d)
structure iK (R:ahb) (full:X) (lf:ag8) (E:X->X->fZ) (x:aR) (c:X):Prop where
 r:i9 R full lf (eG R.length E) x
 ex:vH c x
section
variable {R:ahb} {full:X} {lf lf':ag8} {E:X->X->fZ} {x:aR} {c:X}
theorem iK.e (d:iK R full lf E x c) (f:a<R.length) (g:b<R.length) (h:lf.getD a bq=bp) (i:lf.getD b bq=bp):E a b=az (x.s (R.getD a 0) (R.getD b 0)):=by obtain⟨l,j,k⟩:=d.r.ent a b f g h i;grind [ah0,ju,eG]
theorem i9.rest {d:bm (bm fZ)} (b:i9 R full lf d x) {p:ahb} (k:∀a∈p,a<full) (h:∀a,a<R.length->lf'.getD a bq=(lf.getD a bq&&br (a∉p))) {i:X} (m:i<=R.length):fe R lf' i=(fe R lf i).filter λe=>br (e∉p.map λa=>R.getD a 0):=by
 have l:=b.fl;unfold fe;rw[List.filter_map,A6];congr 1;refine pA λa c=>?_;have c:=h9.1 c;rw[h a aa,Bool.and_comm];congr 1;show _=br (R.getD a 0∉p.map λa=>R.getD a 0);refine cu.2 (not_congr ?_);rw[eP];constructor
 ·grind
 rintro⟨j,g,f⟩;have n:=k j g;have:=(b.inj (i:=j) (j:=a) aa aa).1 f;grind
theorem iK.next (b:iK R full lf E x c) {p:ahb} (B:∀a∈p,a<full/\lf.getD a bq=bp) (A:p.Nodup) (z:lf'.length=lf.length) (o:∀a,a<R.length->lf'.getD a bq=(lf.getD a bq&&br (a∉p))) {E':X->X->fZ} {c':X} (D:∀d e,d<R.length->e<R.length->lf'.getD d bq=bp->lf'.getD e bq=bp->E' d e=az ((x.elim (p.map λa=>R.getD a 0)).s (R.getD d 0) (R.getD e 0))) (C:vH c' (x.elim (p.map λa=>R.getD a 0))):iK R full lf' E' (x.elim (p.map λa=>R.getD a 0)) c':=by
 have m:=b.r.fl;have f:∀a∈p,a<full:=λa y=>(B a y).1;refine⟨⟨z.trans b.r.ll,b.r.nd,b.r.sm,m,?_,?_,λd _ e _=>kA _ _,λd e w F J K=>?_⟩,C⟩
 ·rw[b.r.rest f o (bd _),<-b.r.rows];rfl
 ·rw[b.r.rest f o m];show x.full-(p.map _).length=_;have u:(p.map λa=>R.getD a 0).Nodup:=by
   rw[ajw,oM];refine tD ?_ A;intro k l h j i g;have q:=f k h;have t:=f l j;exact i ((b.r.inj aa aa).1 g)
  have v:(fe R lf full).Nodup:=(by unfold fe;rw[ajw,oM];refine tD ?_ ((vR (n:=full)).sublist tG);intro k l h j i g;have q:=h9.1 (hx.1 h).1;have t:=h9.1 (hx.1 j).1;exact i ((b.r.inj aa aa).1 g));have G:=Dt v u (λL H=>by
   grind [Ib])
  have I:=b.r.full;omega
 refine⟨aB R.length (E' d),ju w,?_⟩;grind [ju]
theorem LN {b:X->Z}:qS R d (λa=>b (R.getD a 0))=hW (d.map (λa=>R.getD a 0),b):=by simp_all [oL,qS,hW]
theorem xl {lf:ag8}:a∈eV lf b↔a<b/\lf.getD a bq=bp:=by grind [eV]
def NJ (lf:ag8) (a:X):(eV lf a).Nodup:=(vR (n:=a)).sublist tG
end
theorem Rv (b:a8 c≠2047):a2 c=Y 0↔jy c=0:=by
 constructor
 ·intro a;rw[l5 b] at a;have a:=gD a;have e:(2:Z)^(h3 c+65536).toNat≠0:=Int.ne_of_gt (mg ab);have d:gx c=0:=(aj9.1 a).resolve_right e;have h:=sG c;have g:0<=fb c:=aa;unfold jy;rw[aw b];have f:a8 c=0/\fb c=0:=by
   unfold gx at d;omega
  omega
 intro a;unfold jy at a;rw[aw b] at a;by_cases i:a8 c=0/\fb c=0
 ·simp_all [oI,au,l5,gx]
 omega
end
section
section
variable {R:ahb} {full:X} {lf lf':ag8} {E:X->X->fZ} {x:aR} {c:X}
theorem UR (c:ahb) (b:X->Z):c.map (λa=>az (a2 (b a)))=(c.map λa=>a2 (b a)).map az:=by simp_all
theorem Qn {l:ahb} {f:X->Z} {d:ag6} (b:cL d) (g:l.length<=1000):o2 (l.map (λa=>az (a2 (f a))),az d,())=Y (l.map (λa=>az (cT (a2 (f a)) d)),()):=by
 rw[UR,acq (λc e=>by
  grind [gr]) b (by grind),oL]
 rfl
theorem acD (i:iK R full lf E x c) (d7:c+4<1048576) {p:X} (fn:p<full) (H:lf.getD p bq=bp) (P:lf'.length=lf.length) (O:∀a,a<R.length->lf'.getD a bq=(lf.getD a bq&&br (a∉[p]))) (an:x.fin (R.getD p 0)):ae (Cg (cF R full lf' (eG R.length E),(p:Z),x.ba (R.getD p 0) (R.getD p 0),())) λq=>
  ((x.eL [R.getD p 0]).fin/\∃E',q=(cF R full lf' (eG R.length E'),(x.eL [R.getD p 0]).c3.map hW,0,())/\iK R full lf' E' (x.elim [R.getD p 0]) (c+4))\/(¬(x.eL [R.getD p 0]).fin/\q.2.2.1=233/\q.2.1=[]):=by
 have ek:=i.r.fl;have A:=i.r.sm;have I:p<R.length:=aa;have a0:lf'.length=R.length:=P.trans i.r.ll;generalize C:R.getD p 0=b at*;have G:a8 (x.ba b b)≠2047:=(by have:=an (R.getD p 0) (i.r.mem I H);grind);have j:∀a∈eV lf' R.length,a<R.length/\lf.getD a bq=bp/\a≠p:=λa h=>(by obtain⟨L,d5⟩:=xl.1 h;grind);have z:(eV lf' R.length).length<=1000:=dh (H8 _ _) aa;have a3:=NJ lf' R.length;have bl:(eV lf' R.length).map (λa=>R.getD a 0)=x.rows.filter λd=>br (d∉[b]):=(by have:=i.r.rest (lf':=lf') (p:=[p]) (λa h=>by grind) O (bd _);rw[<-i.r.rows] at this;grind [DW,als]);have U:∀o,(x.eL [b]).rows=(eV lf' R.length).map (λa=>R.getD a 0)/\(o∈(x.eL [b]).l↔o=λd=>if jy (x.ba b b)=0 then 0 else fV (x.s d b) (a2 (x.ba b b)) 0):=λo=>⟨bl.symm,by
  show o∈[_]↔_;grind⟩
 generalize D:(λd=>if jy (x.ba b b)=0 then(0:Z) else fV (x.s d b) (a2 (x.ba b b)) 0)=f at U;have M:∀d,f d=if jy (x.ba b b)=0 then(0:Z) else fV (x.s d b) (a2 (x.ba b b)) 0:=λd=>by rw[<-D]
 have a4:(x.eL [b]).l=[f]:=(by rw[<-D];rfl);have d9:(x.eL [b]).c3=[((eV lf' R.length).map (λa=>R.getD a 0),f)]:=(by simp_all [a7.c3]);have ap:(x.eL [b]).fin↔∀a∈eV lf' R.length,a8 (f (R.getD a 0))≠2047:=by
  unfold a7.fin;rw[a4,<-(U f).1.symm];constructor
  ·exactλav a h=>av f ac _ (eP.2 ⟨a,h,bn⟩)
  grind
 obtain⟨V,am⟩:=Ee G;have F:cL (a2 (x.ba b b)):=gr _;unfold Cg;dsimp only;refine bz (PK a0 A) ?_;dsimp only;refine bz (qc (x.k5 _ _)) ?_;dsimp only;refine bz (o4 F) ?_;dsimp only;have bx:(vj (a2 (x.ba b b))==0)=br (jy (x.ba b b)=0):=(by rw[gH,cu,<-Rv G,am];show gA V=0↔_;grind [ais,gA]);rw[bx];have fp:(∀a∈eV lf' R.length,a8 (f (R.getD a 0))≠2047)->
  ae ((o2 ((eV lf' R.length).map (λa=>az (a2 (f (R.getD a 0)))),az (a2 (x.ba b b)),())).bind λ(d0,_)=>
   (pW (cF R full lf' (eG R.length E),a5 (eV lf' R.length),d0,(eV lf' R.length).map (λa=>az (a2 (f (R.getD a 0)))),())).bind λ(ds,_)=>
   Y (ds,[qS R (eV lf' R.length) λa=>f (R.getD a 0)],(0:Z),())) λq=>((x.eL [b]).fin/\∃E',q=(cF R full lf' (eG R.length E'),(x.eL [b]).c3.map hW,0,())/\iK R full lf' E' (x.elim [b]) (c+4))\/(¬(x.eL [b]).fin/\q.2.2.1=233/\q.2.1=[]):=by
  intro t;refine bz (Qn F z) ?_;dsimp only;have ce:=QK (R:=R) (full:=full) (lf:=lf') (E:=E) (l:=eV lf' R.length) (s:=λd g=>x.s (R.getD d 0) (R.getD g 0)) (u:=λa=>cT (a2 (f (R.getD a 0))) (a2 (x.ba b b))) (v:=λa=>a2 (f (R.getD a 0))) A (λa h=>(j a h).1) a3 z
   (λd k g m=>i.e (j d k).1 (j g m).1 (j d k).2.1 (j g m).2.1) (λd k g m=>i.r.okd _ (i.r.mem (j d k).1 (j d k).2.1) _ (i.r.mem (j g m).1 (j g m).2.1)) (λd _=>kJ _ _) (λd _=>gr _)
  refine bz ce ?_;refine bu.2 (.inl ⟨ap.2 t,(λd g=>if d∈eV lf' R.length/\g∈eV lf' R.length then az (cH (x.s (R.getD d 0) (R.getD g 0)) (c4 (cT (cT (a2 (f (R.getD d 0))) (a2 (x.ba b b))) (a2 (f (R.getD g 0)))))) else E d g),?_,?_⟩)
  ·grind [LN]
  have N:∀d J,nA (x.gJ [b]) (x.lc [b]) d J=hH (f d) (x.ba b b) (f J):=λd J=>(by rw[<-D];rfl);have eq:=i.next (lf':=lf') (p:=[p]) (λa h=>by grind) ac P O (E':=λd g=>if d∈eV lf' R.length/\g∈eV lf' R.length then az (cH (x.s (R.getD d 0) (R.getD g 0)) (c4 (cT (cT (a2 (f (R.getD d 0))) (a2 (x.ba b b))) (a2 (f (R.getD g 0)))))) else E d g) (c':=c+4) (λd g k m cv c1=>by
   rw[au ⟨xl.2 ⟨k,cv⟩,xl.2 ⟨m,c1⟩⟩,tI,C];show _=az (cH _ (c4 (nA (x.gJ [b]) (x.lc [b]) _ _)));rw[N];rfl) (by
   rw[tI,C];intro K B d k g m;have el:=k;have em:=m;change d∈x.rows.filter _ at k;change g∈x.rows.filter _ at m;have Q:∀o,o∈x.rows.filter (λd=>br (d∉[b]))->o∈x.rows/\a8 (f o)≠2047:=λo d6=>(by grind);obtain⟨i1,ci⟩:=Q d k;obtain⟨co,cs⟩:=Q g m;show cR K 3222 3072 (c+4) (cH _ (c4 (nA (x.gJ [b]) (x.lc [b]) _ _)));rw[N];exact(cR.sub B (i.ex K B d i1 g co) (cR.hH B ci G cs) aa).1.mono (bd _) (bd _) aa)
  grind
 by_cases w:jy (x.ba b b)=0
 ·rw[aY (aH w)];have ad:∀d,f d=0:=λd=>(by rw[M d,b9 w]);have L:qW (1,())=Y (az (jx 1),()):=zC ab ab;refine bz L ?_;dsimp only;rw[abc];have S:∀a:X,fV (Y 0) (jx 1) 0=0:=λ_=>by
   rw[Nj (n:=1) ab bn];unfold fV;grind
  refine bE (EA (v:=λ_=>Y 0) A (xf 1) (λa h=>⟨(j a h).1,Al,?_⟩) z) ?_
  ·unfold Ci;dsimp only;exact ah (zC ab ab) rfl
  rintro q (⟨t,rfl⟩|⟨⟨a,h,t⟩,_⟩)
  ·dsimp only;rw[a1 (by rfl)];have ao:(λa:X=>fV (Y 0) (jx 1) 0)=λa=>f (R.getD a 0):=(by simp_all);have d4:(eV lf' R.length).map (λa=>az (a2 (fV (Y 0) (jx 1) 0)))=(eV lf' R.length).map λa=>az (a2 (f (R.getD a 0))):=ahv λa _=>(by rw[S a,ad]);grind
  rw[S a] at t;exact absurd t ab
 rw[a1 (aF w)];have d8:∀d,f d=fV (x.s d b) (a2 (x.ba b b)) 0:=λd=>(by rw[M d,aw w]);rw[abd];refine bE (EA (v:=λa=>x.s (R.getD a 0) b) A F (λa h=>⟨(j a h).1,?_,?_⟩) z) ?_
 ·have:=i.r.okd _ (i.r.mem (j a h).1 (j a h).2.1) _ (i.r.mem I H);grind
 ·unfold Ch;dsimp only;obtain⟨d1,c2,dl⟩:=i.r.ent a p (j a h).1 I (j a h).2.1 H;rw[C] at dl;refine ah (y:=Y (cF R full lf' (eG R.length E))) rfl (ah (y:=cF R full lf' (eG R.length E)) rfl ?_);refine ah (y:=d1) (by rw[fg];exact c2) (ah (y:=(p:Z)) rfl (ah (y:=az (x.s (R.getD a 0) b)) (by grind [fg]) rfl))
 rintro q (⟨t,rfl⟩|⟨⟨a,h,t⟩,T⟩)
 ·grind
 obtain⟨o,d2,d3,_⟩:=q;dsimp only at T;subst T;dsimp only;rw[aY (by rfl)];grind [bu]
end
end
end Go.jm
end
