/-
  Parts of the proof: Pl23, Pl24, Pl25, Pl26, Pl27, Pl29, Pl30, Pl32, Pl36, Pl40, Pl41, Pl42, Pl43, Pm13, Pl46, Pl48, Pl50, Pl51, Pl54, Pm14, Pm15, Pm16, Pm17, Pm18, Pm22, Pm24, Pm25, Pm26, Pm27, Pm29, Pm30, Pm31, Pm32, Pm33, Pm34, Pm36, Pm52, Pm55, Pm57, Pm70, Pm71, Pm72, Pm73, Pm74, Pm75, Pm76, Pm77, Pm78, Pm79, Pm80, Pm81, Th5, Th6, Pm82, Pm83, Pm90, Pm38, Pm41, Pm42, Pm91, Pm84, Pm85, Pm86, Pm87, Pm88, Pm92, Pm93, Pm94, Pm95, Pm89, Pm97, Pm99, Pm100, Pm98, Pm101, Pm102, Pm103: the framework (Fw), pure forms (Dn), plain laws (Pl, Th), calls of functions (Ok).
-/
import Derived.KernelRfl
import Derived.Test.YtnndjinceoekdaaGreatDoorBec4c8708

set_option linter.all false
set_option maxHeartbeats 1000000
open _root_ renaming Nat->X,Int->Z,Option->bA,List->bp,Unit->bw,Bool->bD,cond_false->bR,rfl->bq,decide_true->alH,cond_true->bI,decide_eq_decide->cy,if_true->cp,forall_const->aoa,implies_true->ao7,not_true_eq_false->amS,congrArg->b4,not_not_intro->cw,beq_self_eq_true->alC,decide_eq_true_eq->alD,Decidable->alP,if_pos->b9,if_neg->ck,decide_eq_true->alc,of_decide_eq_true->amF,and_true->cf,decide_eq_false_iff_not->anU,decide_eq_false->alM
open Option renaming some->Y,bind_some->bM,map_some->amP,bind->bE,none->bv
open List renaming replicate->bJ,getElem?_eq_getElem->bV,getD->alW,range->bK,pairwise_iff_getElem->ala,getElem_inj->amw,length_range->amf,filter_eq_self->amA,length_filter_le->alB,range_succ->alu,mem_iff_getElem->amc,take_add_one->ct,getElem_mem->b1,take_of_length_le->cj,mem_cons_self->ao6,map_congr_left->alq,mem_of_find?_eq_some->aqm,take_sublist->ano,mem_singleton->ak9,length_set->anf,map_append->amQ,take_length->cm,take_append_drop->amC,decidableBAll->aqo,mem_of_getElem?->alo,drop_eq_nil_of_le->aoZ,length_take->alj,drop_eq_getElem_cons->anQ,mem_take_iff_getElem->amR,length_map->b6,not_mem_nil->anr,append_assoc->alG,map_const'->ao5,mem_map->apb,getElem?_eq_some_iff->alT,filter_map->apc,filter->am6,drop_eq_nil_iff->anE,flatMap_def->aqp,range'->alb,Nodup->aod,range_eq_range'->apd,flatMap->aoe,filter_nil->an9,mem_append_right->anL,length_append->alr,map_take->ape,set_append_right->an0,length_singleton->amx,length_range'->apf,range'_concat->aof,foldl_append->aqq,foldl_cons->ans,length->cE,takeWhile_sublist->aqr,head_dropWhile_not->aqs,nodup_range->aog,mem_range->amg,mem_flatMap->aqt,mem_of_mem_take->aqu,mem_filter->aqv,takeWhile_append_dropWhile->aqw,dropWhile_sublist->aqx,pairwise_cons->am0,getElem_idxOf->aoh,getElem?_eq_none->amJ
open Go.IntKind renaming u64->bG,i64->bO
open Go.l0.ah renaming eq_iff->bQ,aJ->bF,ai->bu,loop->als,steps->bP,bs->bC,ite->alv
open Option.some renaming injEq->amD,inj->al6
open Bool renaming true->bt,false->br,false_and->aoA,and_true->anP
open Go.l0 renaming wrap64->cx
open Int renaming toNat_natCast->alO,sub_zero->anX,eq_ofNat_of_zero_le->cC,toNat->alI,mul_ediv_cancel->ao0,mul_ne_zero->aqn,mul_eq_zero->anb,mul_zero->anc,add_mul->anm,mul_comm->ame,lt_irrefl->apa
open Decidable renaming decide->bz
open Go.l0.ks renaming symm->ao8
open Nat renaming lt_or_ge->cq,ble->b5,ble_eq_true_of_le->aql,le_refl->cc,le_trans->cu,one_mul->anq,mul_add_div->ao4,div_eq_of_lt->an7,zero_mul->am8,add_assoc->aoc,add_comm->amY,beq->bL,and_two_pow_sub_one_eq_mod->aoR,mod_lt->amm
open List.Perm renaming refl->anp,append_left->anO
open Go.Lib renaming compact->al2,keeps->aob
open List.Nodup renaming sublist->ao9
open List.Pairwise renaming sublist->aqj,imp_of_mem->aqR,nil->amZ
open List.Sublist renaming append->aqP,refl->aqQ
open BitVec renaming ofInt->cn
noncomputable section
namespace Go.l0
variable{a b h t:X}{c o p w:ak7}{d k O:Z}{f l:ak6}{i:Type}{q:bA (Z×((bp aM×bw)×(bp (bA (bp (Z×cP)×X))×bw)))}{r:bp (bp fV)}{s:Z->Prop}{u:akW}{v:X->X->bD}{x:ak1}{y:ak7×bD×bw}{N:c5}{P:Z->bA (cP×bw)}
section
structure M1 (n:X) (f:X->Z) (L4:ak7) (m:X) (s e:X->X):Prop where
 len:L4.length=m
 st:L4=aC m λk=>(s k:Z)
 LU:0<n->0<m/\s 0=0
 ahR:n=0->m=0
 ok:∀k,k<m->s k<e k/\e k<=n/\e k<=s k+gd n f (e k-1)
 aO:∀k,k<m->aaD L4 n k=(e k:Z)
 ahG:∀k,k+1<m->e k=s (k+1)
 el:∀k,k+1=m->e k=n
section
variable {A:akW} (B:fw A) (C:A.length<=200)
include B C
end
end
section
def hH (s:X->X) (a:X):X->Z
 |0=>-1
 |k+1=>if s k<=a then(k:Z) else hH s a k
abbrev eE:=Z×dY
section
variable {n:X} {f:X->Z} {B:ak7} {m:X} {s e:X->X} (C:M1 n f B m s e)
include C
end
section
variable {A:akW} (D:fw A) (F:A.length<=200)
include D F
end
end
def U9:∀a:X,a<201->El (1,(a:Z),())=Y (0,(a:Z),()):=by unfold El;decide+kernel
def Vm (c:Z) (t:0<a) (u:a<=200):EA ([c],(a:Z),())=Y (bJ a c,()):=by
 unfold EA;have ax:bG.wrap (a:Z)=(a:Z):=(by rw[Uu];omega);have m:bG.wrap ((1:X):Z)=1:=(by rw[Uu];rfl);have r:¬((a:Z)<0):=aa;have p:¬((a:Z)>9223372036854775807):=aa;simp only[cW,aA r,aF,IJ,ax,m,U9 a aa,xW,(aa:¬((0:Z)>0)),if_false,aD p,bR,CO (aa:a<9223372036854775808),hP (aa:a<=4294967296),rp,nr,Nat.sub_zero];rw[<-bQ];refine bF (P:=λl=>l.1=bJ a c) ?_ (by rintro⟨l,⟨⟩⟩ g;simp only at g;subst g;exact bu.2 bq);have s:∀b:X,b<=a->bJ b c++bJ (a-b) 0=aC a (λd=>if d<b then c else 0):=λb i=>(by rw[iF,iF,Bq];have:b+(a-b)=a:=aa;rw[this]);refine als (λf=>∃b:X,f.1=(b:Z)/\0<b/\b<=a/\f.2.1=aC a (λd=>if d<b then c else 0)) (λf=>a-f.1.toNat) ⟨1,?_,aa,aa,?_⟩ ?_
 ·show((min 1 a:X):Z)=1;rw[h5 aa];rfl
 ·show jS (bJ a 0) [c] 0 a=_;unfold jS;rw[h5 (show[c].length<=a-0 by simp;omega),xo,fD (show[c].length<=a-0 by simp;omega),iD,List.drop_replicate,iF];show[c]++aC (a-1) (λ_=>0)=_;have:[c]=aC 1 (λ_=>c):=rfl;rw[this,Bq];have:1+(a-1)=a:=aa;rw[this]
 rintro⟨f,w,⟨⟩⟩ ⟨b,i,v,q,k⟩;simp only at i k;subst i k;simp only[cU];by_cases g:b<a
 ·simp(disch:=omega) only[aB,wv,qN,Lp,aF,jv,mm,Fy,cU];refine bu.2 ⟨⟨b+min b (a-b),Uv aa,aa,aa,?_⟩,?_⟩
  ·show jS (aC a λd=>if d<b then c else 0) (aC b λd=>if d<b then c else 0) b a=_;unfold jS;have n:(aC b λd=>if d<b then c else 0)=aC b λ_=>c:=c4 λd h=>(by rw[aB h]);have o:(aC b λ(_:X)=>c).take (a-b)=aC (min b (a-b)) λ_=>c:=by
    rcases Nat.le_total (a-b) b with e|e
    ·rw[Fy _ _ _ e,Nat.min_eq_right e]
    rw[fD (by rw[cU];exact e),h5 e]
   rw[Fy _ _ _ q,cU,n,o,XV,Bq,Bq];have:b+(min b (a-b)+(a-(b+min b (a-b))))=a:=aa;rw[this];refine c4 λd h=>?_;by_cases e:d<b
   ·rw[aB e,aB aa]
   rw[aA e];by_cases j:d-b<min b (a-b)
   ·rw[aB j,aB aa]
   rw[aA j,aA aa,aA aa]
  show a-(bO.wrap ((b:Z)+((min b (a-b):X):Z))).toNat<a-(b:Z).toNat;rw[Uv aa];omega
 simp(disch:=omega) only[aA];refine bu.2 ?_;show _=_;rw[iF];exact c4 λd h=>by rw[aB aa]
def bk (a:bp eE):X->X
 |0=>0
 |k+1=>((a[k]?).map λ(b:eE)=>b.2.1.toNat).getD 0
def ov (d:X) (c:bp eE) (b:X):Prop:=∃a:eE,c[b]?=Y a/\a.1=(bk c b:Z)/\(bk c b:Z)<a.2.1/\a.2.1<=(d:Z)
def mh (c:X) (a:bp eE):Prop:=(∀b,b<a.length->ov c a b)/\bk a a.length=c
theorem Wx {b:bp eE} (c:a<b.length) (d:0<=b[a].2.1):(bk b (a+1):Z)=b[a].2.1:=by grind [bV,bk]
theorem ov.at {c:bp eE} (i:a<c.length) (d:ov b c a):c[a].1=(bk c a:Z)/\c[a].2.1=(bk c (a+1):Z)/\bk c a<bk c (a+1)/\bk c (a+1)<=b:=by obtain⟨j,e,f,g,h⟩:=d;grind [Wx,amD,bV]
theorem NR {d:bp eE} {m:X} (f:∀e,e<m->e<d.length/\ov a d e):∀c b,c<=b->b<=m->bk d c<=bk d b:=by
 intro c b l
 induction b with
 |zero=>grind
 |succ b j=>
  intro n;rcases cY c (b+1) with g|g
  ·have k:=j aa aa;obtain⟨h,i⟩:=f b aa;have:=i.at h;omega
  grind
theorem xT {c:bp eE} {m:X} (f:∀a,a<m->a<c.length/\ov h c a) (n:a<m) (i:bk c a<=b) (j:b<bk c (a+1)):∀d,a<d->d<=m->hH (bk c) b d=(a:Z):=by
 intro d
 induction d with
 |zero=>omega
 |succ e o=>
  intro k l;rcases cY a e with g|g
  ·have:=NR f (a+1) e aa aa;grind [l0.hH]
  obtain rfl:e=a:=aa;simp_all [aB,l0.hH]
theorem xS {c:bp eE} (f:mh b c) (g:a<b):∃d,d<c.length/\bk c d<=a/\a<bk c (d+1):=by
 have h:∀e,e<=c.length->a<bk c e->∃d,d<e/\bk c d<=a/\a<bk c (d+1):=by
  intro e
  induction e with
  |zero=>intro _ f;exact absurd f (zX _)
  |succ e k=>
   grind
 obtain⟨d,i,j⟩:=h c.length (bg _) (by rw[f.2];exact g);grind
theorem WU (b:bp eE) (D:a<=200) (C:b.length<4611686018427387904):ah (Ff (b,(a:Z),())) (λf=>(f.2.1=bt↔mh a b)/\(mh a b->f.1=aC a (λg=>hH (bk b) g b.length))):=by
 classical
 unfold Ff;refine bF (P:=λv=>match v with|.inl f=>(∀c,c<b.length->ov a b c)/\f.1=aC (bk b b.length) (λg=>hH (bk b) g b.length)|.inr f=>¬mh a b/\f=([],br,())) ?_ ?_
 ·refine ah.for b.length (λc w=>(∀d,d<c->d<b.length->ov a b d)/\w.1=aC (bk b c) (λg=>hH (bk b) g c)) (i0:=0) rfl ⟨λd e=>by omega,bq⟩ (dj _) ?_ ?_
  ·rintro c ⟨u,⟨⟩⟩ _ k ⟨p,i⟩;simp only at i;subst i;have q:∀d,d<c->d<b.length/\ov a b d:=λd o=>⟨aa,p d o aa⟩;have B:bk b c<=a:=by
    cases c with
    |zero=>exact dj _
    |succ c=>exact((q c aa).2.at aa).2.2.2
   have s:=fR (bh k);simp(disch:=omega) only[cW,aB,s,aF,cU,fJ];have A:¬(b[c].1=(bk b c:Z)/\(bk b c:Z)<b[c].2.1/\b[c].2.1<=(a:Z))->¬mh a b:=λe l=>(by obtain⟨E,j,n⟩:=l.1 c k;grind);by_cases h:b[c].1=(bk b c:Z)
   ·by_cases x:b[c].2.1<=b[c].1
    ·simp only[h,alH,g7,show(br==br)=bt from rfl,bI,aI (aa:b[c].2.1<=(bk b c:Z)),show(bt==br)=br from rfl,bR,aF];grind [bu]
    by_cases m:b[c].2.1>(a:Z)
    ·simp only[h,alH,g7,show(br==br)=bt from rfl,bI,aD (aa:¬b[c].2.1<=(bk b c:Z)),aI m,aF];grind [bu]
    have r:ov a b c:=⟨b[c],bh k,h,aa,aa⟩;obtain⟨j,n,y,z⟩:=r.at k;have t:bO.wrap (b[c].2.1-b[c].1)=((bk b (c+1)-bk b c:X):Z):=(by rw[j,n,ahi aa aa]);simp only[h,alH,g7,show(br==br)=bt from rfl,bI,aD (aa:¬b[c].2.1<=(bk b c:Z)),aD m,bR,aF];rw[<-h];rw[t,Vm _ aa aa];simp(disch:=omega) only[aF,rp,c9,jr,cU];refine bu.2 ⟨bq,λd o e=>?_,?_⟩
    ·grind
    show aC (bk b c) (λg=>hH (bk b) g c)++bJ (bk b (c+1)-bk b c) (c:Z)=_;grind [c4,iF,Bq,l0.hH,bk]
   simp only[aD h,mP,show(bt==br)=br from rfl,bR,bI,aF];grind [bu]
  simp_all [cW,aA,bu]
 rintro(⟨u,⟨⟩⟩|f) e
 ·obtain⟨j,i⟩:=e;simp only at i;subst i;simp only[cU];refine bu.2 ⟨?_,λl=>?_⟩
  ·show(((bk b b.length:X):Z)==(a:Z))=bt↔_;rw[beq_iff_eq];exact⟨λe=>⟨j,aa⟩,λe=>by have:=e.2;omega⟩
  show aC (bk b b.length) _=_;rw[l.2]
 grind [bu]
def ru (c:X) (a:eE) (b:X):Prop:=∀d:b<a.2.2.1.length,(b<(a.2.1-a.1).toNat->a.2.2.1[b]=a.1+(b:Z))/\((a.2.1-a.1).toNat<=b->a.2.1<=a.2.2.1[b]/\a.2.2.1[b]<(c:Z)/\a.2.2.1[b-1]<a.2.2.1[b])
def j5 (c:X) (a:eE):Prop:=(a.2.1-a.1).toNat<=a.2.2.1.length/\∀b,0<=b->b<a.2.2.1.length->ru c a b
theorem afO {n:X} {x:eE} (o:0<=x.1) (p:x.1<x.2.1) (q:x.2.1<=(n:Z)) (s:n<=200) (r:x.2.2.1.length<4611686018427387904):Fh (x,(n:Z),())=Y ((open Classical in decide (j5 n x)),()):=by
 classical
 obtain⟨b,j⟩:∃b:X,x.2.1-x.1=(b:Z):=⟨(x.2.1-x.1).toNat,aa⟩;have t:(x.2.1-x.1).toNat=b:=aa;unfold Fh;simp only[j,CO (aa:b<9223372036854775808),cW];by_cases l:b<=x.2.2.1.length
 ·rw[aA aa];refine aj (tY (τ:=bw) x.2.2.1.length (ru n x) () (.inl ()) (.inr (br,())) 0 bq (dj _) ?_ ?_) ?_
  ·intro a _ i _;have h:=fR (bh i);rw[aB aa,h];simp only[aF,Ao,fJ];by_cases m:a<b
   ·rw[aB aa,cx aa aa];simp only[aF];by_cases c:x.2.2.1[a]=x.1+(a:Z)
    ·have:ru n x a:=λ_=>⟨λ_=>c,λg=>by omega⟩;rw[aB this,aI c];simp(disch:=omega) only[g7,bR,aA,aF,jr]
    simp_all [aA,aD,ru]
   rw[aA aa];simp only[aF,bR];rw[aB aa];simp only[xW];have k:aq x.2.2.1 (bO.wrap ((a:Z)-1))=Y (x.2.2.1[a-1]'(by omega)):=by grind [fR,bV,w3]
   by_cases c:x.2.2.1[a]<x.2.1
   ·grind [ru]
   rw[aA c];by_cases e:x.2.2.1[a]>=(n:Z)
   ·grind [ru]
   rw[aA e,k];simp only[aF];by_cases f:x.2.2.1[a]<=x.2.2.1[a-1]
   ·grind [ru]
   have:ru n x a:=λ_=>⟨λg=>by omega,λ_=>⟨aa,aa,aa⟩⟩;rw[aB this,aA f];grind [jr]
  ·grind
  by_cases d:∀a,0<=a->a<x.2.2.1.length->ru n x a
  ·rw[aB d,aI (show j5 n x from⟨aa,d⟩)]
  simp_all [aA,aD,j5]
 simp_all [aB,aD,j5]
def g6 (a:bp eE) (b:Z):ak7:=((a[b.toNat]?).map λ(c:eE)=>c.2.2.1).getD []
def jD (c:bp eE) (a:eE):Prop:=
 (a.2.2.1.length=(a.2.1-a.1).toNat/\a.2.2.2.1=-1)\/
 (∃d:(a.2.1-a.1).toNat<a.2.2.1.length,a.2.2.2.1=hH (bk c) (a.2.2.1[(a.2.1-a.1).toNat]).toNat c.length/\∀b,(a.2.1-a.1).toNat<=b->(e:b<a.2.2.1.length)->a.2.2.1[b]∈g6 c a.2.2.2.1)
theorem j5.asc {b:eE} (f:0<=b.1) (g:b.1<b.2.1) (c:j5 a b):b.2.2.1.Pairwise (· < ·):=by rw[B6];intro e d;have aE:=c.2 e (dj _) aa aa;have h:=c.2 (e+1) (dj _) d d;grind
theorem us {b:bp eE} (c:a<b.length):g6 b (a:Z)=b[a].2.2.1:=by grind [alO,bV,g6]
theorem MD {v:Z} (b:c.length<4611686018427387904) (d:c.Pairwise (· < ·)):∃a,vC (c,v,())=Y (a,bz (v∈c),()):=by obtain⟨⟨a,e,⟨⟩⟩,f,g⟩:=ME c v b d;grind
theorem ZK {c:bp eE} (V:b<=200) (n:mh b c) (w:∀L∈c,L.2.2.1.length<4611686018427387904) (u:∀a,(r:a<c.length)->j5 b c[a]) (i:a<c.length):Fg (c,aC b (λz=>hH (bk c) z c.length),c[a],())=Y ((open Classical in decide (jD c c[a])),()):=by
 classical
 have t:=(n.1 a i).at i;have p:=u a i;have D:=w _ (cK i);generalize am:c[a]=d at t p D;obtain⟨N,O,P,Q⟩:=t;obtain⟨e,F⟩:∃e:X,d.2.1-d.1=(e:Z):=⟨(d.2.1-d.1).toNat,aa⟩;have x:(d.2.1-d.1).toNat=e:=aa;have G:=p.1;rw[x] at G;unfold Fg;simp(disch:=omega) only[F,CO (aa:e<9223372036854775808),wv,aF,qN,jv,gC,nS,cW,gp,fJ];by_cases R:d.2.2.1.length=e
 ·rw[aB aa];have:bz (d.2.2.2.1=-1)=bz (jD c d):=by
   simp_all [cy,jD]
  grind
 have o:e<d.2.2.1.length:=aa;have ad:=(p.2 e (dj _) o o).2 aa;obtain⟨k,y⟩:∃k:X,d.2.2.1[e]=(k:Z):=⟨(d.2.2.1[e]).toNat,aa⟩;have K:k<b:=aa;have A:aq (d.2.2.1.drop e) 0=Y (k:Z):=(by grind [fR]);rw[aA aa];simp(disch:=omega) only[A,aF,r7];obtain⟨g,h,H,I⟩:=xS n K;have q:hH (bk c) k c.length=(g:Z):=xT (m:=c.length) (λa i=>⟨i,n.1 a i⟩) h H I c.length h (bg _);rw[q];have T:jD c d↔d.2.2.2.1=(g:Z)/\∀f,0<=f->f<d.2.2.1.length-e->d.2.2.1.getD (e+f) 0∈c[g].2.2.1:=by
  unfold jD;rw[x];constructor
  ·rintro(r|⟨r,j,l⟩)
   ·omega
   rw[y,gg,q] at j;grind [bV,us]
  rintro⟨j,l⟩;refine .inr ⟨o,by rw[y,gg,q,j],λf s S=>?_⟩;rw[j,us h];have:=l (f-e) (dj _) aa;grind
 by_cases s:d.2.2.2.1=(g:Z)
 ·simp only[s,alH,g7,bR];have B:c[g].2.2.1.Pairwise (· < ·):=by
   have:=(n.1 g h).at h;exact(u g h).asc aa aa
  have J:=w _ (cK h);refine aj (tY (τ:=bw) (d.2.2.1.length-e) (λf=>d.2.2.1.getD (e+f) 0∈c[g].2.2.1) () (.inl ()) (.inr (br,())) 0 bq (dj _) ?_ ?_) ?_
  ·intro f _ U _;have j:aq (d.2.2.1.drop e) (f:Z)=Y (d.2.2.1.getD (e+f) 0):=by
    grind [bV,fR]
   have l:aq c (g:Z)=Y c[g]:=fR (bh h);obtain⟨M,C⟩:=MD (v:=d.2.2.1.getD (e+f) 0) J B;rw[aB aa,j,l];simp only[aF,C];by_cases E:d.2.2.1.getD (e+f) 0∈c[g].2.2.1
   ·simp(disch:=omega) only[E,alH,g7,bR,cp,jr]
   grind
  ·grind
  grind
 grind
section
theorem W0 {l:bp eE} (C:a<=200) (D:l.length<4611686018427387904) (e:mh a l) (F:∀i∈l,i.2.2.1.length<4611686018427387904):Eu (l,(Y (a:Z),()),())=Y ((open Classical in decide (¬∀b,(d:b<l.length)->j5 a l[b])),()):=by
 classical
 rw[<-bQ];unfold Eu;refine bF (P:=λh=>0<=h.1↔¬∀b,(d:b<l.length)->j5 a l[b]) ?_ ?_
 ·unfold IN;refine bF (Kt l.length (λb=>∀d:b<l.length,j5 a l[b]) ?_ ?_) ?_
  ·intro b c;have f:=fR (bh c);obtain⟨j,k,m,o⟩:=(e.1 b c).at c;have g:=afO (n:=a) (x:=l[b]) aa aa aa C (F _ (cK c));simp(disch:=omega) only[cW,aB,f,aF,I2,g];by_cases d:j5 a l[b]
   ·simp(disch:=omega) only[d,alH,g7,bR,c,aoa,cp,jr]
   grind
  ·grind
  grind [bu]
 grind [bu,ge_iff_le]
theorem W1 {l:bp eE} (C:a<=200) (D:l.length<4611686018427387904) (e:mh a l) (F:∀k∈l,k.2.2.1.length<4611686018427387904) (f:∀b,(c:b<l.length)->j5 a l[b]):Ev (l,(Y l,Y (aC a (λj=>hH (bk l) j l.length)),()),())=Y ((open Classical in decide (¬∀b,(c:b<l.length)->jD l l[b])),()):=by
 classical
 rw[<-bQ];unfold Ev;refine bF (P:=λi=>0<=i.1↔¬∀b,(c:b<l.length)->jD l l[b]) ?_ ?_
 ·unfold IP;refine bF (Kt l.length (λb=>∀c:b<l.length,jD l l[b]) ?_ ?_) ?_
  ·intro b d;have g:=fR (bh d);have h:=ZK C e F f d;simp(disch:=omega) only[cW,aB,g,aF,I3,h];by_cases c:jD l l[b]
   ·simp(disch:=omega) only[c,alH,g7,bR,d,aoa,cp,jr]
   grind
  ·grind
  grind [bu]
 grind [bu,ge_iff_le]
def UL (A:akW) (l:bp eE) (b a:X):Prop:=b<a->(a:Z)∈g6 l (hH (bk l) b l.length)
def gU (A:akW) (l:bp eE):Prop:=mh A.length l/\(∀a,(d:a<l.length)->j5 A.length l[a])/\(∀a,(d:a<l.length)->jD l l[a])/\∀c b,ks A c b->UL A l c b
def tK (A:akW) (l:bp eE):Z:=if iO A≠0 then iO A else(open Classical in if gU A l then 0 else 211)
section
variable {A:akW} (B:fw A) (C:A.length<=200) {l:bp eE} (D:l.length<4611686018427387904) (F:∀y∈l,y.2.2.1.length<4611686018427387904)
include B C D F
theorem X3:vQ ((A,()),l,())=Y ((open Classical in if gU A l then 0 else 211),()):=by
 classical
 have I:=B.hc C;unfold vQ;simp only[Hu A I,qx.2 ⟨C,B⟩,aF,fJ,alH,g7,bR];obtain⟨⟨ap,T,⟨⟩⟩,z,t,u⟩:=WU l C D;simp only at t u;simp only[z,aF,xW];by_cases f:mh A.length l
 ·have w:=t.2 f;have O:=u f;subst w O;simp only[g7,show(br==br)=bt from rfl,bI,W0 C D f F,aF];by_cases j:∀b,(d:b<l.length)->j5 A.length l[b]
  ·simp only[j,ao7,amS,decide_false,bR,aF,W1 C D f F j];by_cases q:∀b,(d:b<l.length)->jD l l[b]
   ·simp only[q,ao7,amS,decide_false,bR];have V:gU A l↔∀a,0<=a->a<A.length->∀d:a<A.length,∀b,0<=b->b<A[a].length->∀c:b<A[a].length,A[a][b]<=(a:Z)->(a:Z)∈g6 l (hH (bk l) A[a][b].toNat l.length):=by
     constructor
     ·rintro⟨_,_,_,E⟩ a _ _ d b _ _ c M;have R:=(B.asc a d).2 _ (cK c);obtain⟨e,n⟩:∃e:X,A[a][b]=(e:Z):=⟨A[a][b].toNat,aa⟩;have o:ks A a e:=⟨d,n▸cK c⟩;have am:=o.ne B;rw[n,gg];exact E e a (ao8 B _ _ o) aa
     intro d;refine⟨f,j,q,λe a o ad=>?_⟩;have S:=ao8 B _ _ o;obtain⟨b,c,s⟩:=hV.1 S.2;grind
    rw[show(if gU A l then(0:Z) else 211)=if(∀a,0<=a->a<A.length->∀d:a<A.length,∀b,0<=b->b<A[a].length->∀c:b<A[a].length,A[a][b]<=(a:Z)->(a:Z)∈g6 l (hH (bk l) A[a][b].toNat l.length)) then 0 else 211 from by grind];refine aj (tY (τ:=ak7×bw) A.length (λa=>∀d:a<A.length,∀b,0<=b->b<A[a].length->∀c:b<A[a].length,A[a][b]<=(a:Z)->(a:Z)∈g6 l (hH (bk l) A[a][b].toNat l.length)) (aC A.length (λi=>hH (bk l) i l.length),()) (.inl ()) (.inr (211,())) 0 bq (dj _) ?_ ?_) ?_
    ·intro a _ k _;have J:=fR (bh k);have an:=B.rows _ (cK k);simp(disch:=omega) only[cW,aB,J,aF];refine aj (tY (τ:=ak7×bw) A[a].length (λb=>∀c:b<A[a].length,A[a][b]<=(a:Z)->(a:Z)∈g6 l (hH (bk l) A[a][b].toNat l.length)) (aC A.length (λi=>hH (bk l) i l.length),()) (.inl (aC A.length (λi=>hH (bk l) i l.length),())) (.inr (.inr (.inr (211,())))) 0 bq (dj _) ?_ ?_) ?_
     ·intro b _ c _;have K:=fR (bh c);have R:=(B.asc a k).2 _ (cK c);obtain⟨e,n⟩:∃e:X,A[a][b]=(e:Z):=⟨A[a][b].toNat,aa⟩;simp(disch:=omega) only[aB,K,aF,n,c,aoa,gg];by_cases r:(e:Z)>(a:Z)
      ·have:(e:Z)<=(a:Z)->(a:Z)∈g6 l (hH (bk l) e l.length):=λd=>aa;rw[aB r,aB this];grind [jr]
      obtain⟨h,g,P,Q⟩:=xS f (aa:e<A.length);have L:hH (bk l) e l.length=(h:Z):=xT (m:=l.length) (λb c=>⟨c,f.1 b c⟩) g P Q l.length g (bg _);have y:aq l (h:Z)=Y l[h]:=fR (bh g);have G:l[h].2.2.1.Pairwise (· < ·):=(by have:=(f.1 h g).at g;exact(j h g).asc aa aa);obtain⟨U,H⟩:=MD (v:=(a:Z)) (F _ (cK g)) G;rw[aA r];simp(disch:=omega) only[r7,aF,L,y,H,us g];have M:(e:Z)<=(a:Z):=aa;by_cases N:(a:Z)∈l[h].2.2.1
      ·simp(disch:=omega) only[N,alH,g7,bR,aF,ao7,cp,jr]
      grind
     ·grind
     have s:(∀d:a<A.length,∀b,0<=b->b<A[a].length->∀c:b<A[a].length,A[a][b]<=(a:Z)->(a:Z)∈g6 l (hH (bk l) A[a][b].toNat l.length))↔(∀b,0<=b->b<A[a].length->∀c:b<A[a].length,A[a][b]<=(a:Z)->(a:Z)∈g6 l (hH (bk l) A[a][b].toNat l.length)):=⟨λp=>p k,λp _=>p⟩;by_cases x:∀b,0<=b->b<A[a].length->∀c:b<A[a].length,A[a][b]<=(a:Z)->(a:Z)∈g6 l (hH (bk l) A[a][b].toNat l.length)
     ·simp(disch:=omega) only[aB x,aB (s.2 x),jr]
     grind
    ·grind
    grind
   have:¬gU A l:=λd=>q d.2.2.1;grind
  have:¬gU A l:=λd=>j d.2.1;grind
 have w:T=br:=ae;have:¬gU A l:=λd=>f d.1;grind
end
theorem afN {n:X} {x:eE} (l:0<=x.1) (m:x.1<x.2.1) (w:x.2.1<=(n:Z)):j5 n x↔x.2.2.1.Pairwise (· < ·)/\∃(b:(x.2.1-x.1).toNat<=x.2.2.1.length),x.2.2.1[0]'(by omega)=x.1/\x.2.2.1[(x.2.1-x.1).toNat-1]'(by omega)=x.2.1-1/\x.2.2.1[x.2.2.1.length-1]'(by omega)<(n:Z):=by
 obtain⟨f,u⟩:∃f:X,x.2.1-x.1=(f:Z):=⟨(x.2.1-x.1).toNat,aa⟩;have v:(x.2.1-x.1).toNat=f:=aa;constructor
 ·intro b;refine⟨b.asc l m,b.1,?_,?_,?_⟩
  ·have:=(b.2 0 (dj _) (by have:=b.1;omega) (by have:=b.1;omega)).1 aa;omega
  ·have:=(b.2 ((x.2.1-x.1).toNat-1) (dj _) (by have:=b.1;omega) (by have:=b.1;omega)).1 aa;omega
  have D:=b.1;have t:=b.2 (x.2.2.1.length-1) (dj _) aa aa;omega
 rintro⟨p,D,q,r,s⟩;have h:∀a e,(d:a<x.2.2.1.length)->(g:e<x.2.2.1.length)->a<e->x.2.2.1[a]<x.2.2.1[e]:=λa e d g o=>(it.1 p) a e d g o;have i:∀c a,(d:a+c<x.2.2.1.length)->x.2.2.1[a]+(c:Z)<=x.2.2.1[a+c]:=by
  intro c
  induction c with
  |zero=>grind
  |succ c y=>
   grind
 refine⟨D,λa _ _ d=>⟨λj=>?_,λj=>⟨?_,?_,?_⟩⟩⟩
 ·have aE:=i a 0 aa;have A:=i ((x.2.1-x.1).toNat-1-a) a aa;grind
 ·have z:=h ((x.2.1-x.1).toNat-1) a aa d aa;omega
 ·rcases cY a (x.2.2.1.length-1) with k|k
  ·grind
  grind
 exact h (a-1) a aa d aa
section
variable {A:akW} (B:fw A) (C:A.length<=200) {l:bp eE} (D:l.length<4611686018427387904) (F:∀y∈l,y.2.2.1.length<4611686018427387904)
theorem PH (f:mh h l) (D:l.length<4611686018427387904) (s:a<l.length) (q:bk l a<=b) (r:b<bk l (a+1)):Bc (l,(b:Z),())=Y ((a:Z),()):=by
 unfold Bc;rw[<-bQ];refine bF (P:=λj=>j=.inr ((a:Z),())) ?_ (by grind [bu]);refine ah.for (a+1) (λc _=>c<=a) (i0:=0) rfl (dj _) (dj _) ?_ ?_
 ·rintro c ⟨⟩ _ d _;have e:c<l.length:=aa;have i:=fR (bh e);obtain⟨k,n,o,p⟩:=(f.1 c e).at e;simp(disch:=omega) only[cW,aB,i,aF,Ao];rcases cY c a with g|g
  ·have:=NR (m:=l.length) (λc d=>⟨d,f.1 c d⟩) (c+1) a aa aa;rw[aB aa,aD aa];simp only[aF,bR];grind [bu,jr]
  obtain rfl:c=a:=aa;rw[aB aa,aI aa];grind [bu]
 omega
include B C D F
theorem ae5:yn ((A,()),l,())=Y ((open Classical in if gU A l then 0 else 211),()):=by
 classical
 have O:=B.hc C;unfold yn;simp only[Cl A O,qx.2 ⟨C,B⟩,aF,fJ,alH,g7,bR];rw[<-bQ];refine bF (P:=λS=>match S with|.inl p=>(∀a,a<l.length->ov A.length l a)/\p.1=(bk l l.length:Z)|.inr p=>¬mh A.length l/\p=(211,())) ?_ ?_
 ·refine ah.count (λT=>T.2.1) l.length (λa T=>(∀e,e<a->e<l.length->ov A.length l e)/\T.1=(bk l a:Z)) (i0:=0) rfl ⟨λe c=>by omega,bq⟩ (dj _) ?_ ?_
  ·rintro a ⟨V,d6,⟨⟩⟩ _ d q ⟨M,j⟩;simp only at q j;subst q j;have u:=fR (bh d);have ex:¬(l[a].1=(bk l a:Z)/\(bk l a:Z)<l[a].2.1/\l[a].2.1<=(A.length:Z))->¬mh A.length l:=λc O=>by
    obtain⟨el,r,H⟩:=O.1 a d;grind
   simp(disch:=omega) only[cW,aB,u,aF];by_cases k:l[a].1=(bk l a:Z)
   ·simp only[aI k,g7,show(br==br)=bt from rfl,bI,xW];by_cases J:l[a].2.1<=(bk l a:Z)
    ·rw[aB J];grind [bu]
    rw[aA J];by_cases K:l[a].2.1>(A.length:Z)
    ·rw[aB K];grind [bu]
    rw[aA K];have dg:ov A.length l a:=⟨l[a],bh d,k,aa,aa⟩;obtain⟨r,H,cv,c1⟩:=dg.at d;grind [cq,bu,jr]
   simp only[aD k,mP,show(bt==br)=br from rfl,bR,aF];grind [bu]
  rintro⟨V,d6,⟨⟩⟩ q ⟨M,j⟩;simp only at q j;subst q j;simp(disch:=omega) only[cW,aA];grind [bu]
 rintro(⟨V,⟨⟩⟩|p) c
 rotate_left
 ·obtain⟨r,rfl⟩:=c;exact bu.2 (by rw[aA (λc=>r c.1)])
 obtain⟨M,j⟩:=c;simp only at j;subst j;simp only;by_cases N:bk l l.length=A.length
 rotate_left
 ·have:¬((bk l l.length:Z)=(A.length:Z)):=aa;simp only[aD this,mP,bI];exact bu.2 (by rw[aA (λc=>N c.1.2)])
 have o:mh A.length l:=⟨M,N⟩;simp only[N,alH,g7,bR];refine bF (P:=λS=>match S with|.inl _=>(∀a,(c:a<l.length)->j5 A.length l[a])/\(∀a,(c:a<l.length)->jD l l[a])|.inr p=>¬((∀a,(c:a<l.length)->j5 A.length l[a])/\(∀a,(c:a<l.length)->jD l l[a]))/\p=(211,())) ?_ ?_
 ·refine ah.of_eq (tY (τ:=bw) l.length (λa=>∀c:a<l.length,j5 A.length l[a]/\jD l l[a]) () (.inl ()) (.inr (211,())) 0 bq (dj _) ?_ ?_) ?_
  ·intro a _ d _;have u:=fR (bh d);obtain⟨k,J,K,em⟩:=(o.1 a d).at d;have d0:=F _ (cK d);have av:=afN (n:=A.length) (x:=l[a]) aa aa aa;have d3:(∀c:a<l.length,j5 A.length l[a]/\jD l l[a])↔(j5 A.length l[a]/\jD l l[a]):=⟨λc=>c d,λc _=>c⟩;simp(disch:=omega) only[cW,aB,u,aF];simp only[d3];obtain⟨f,j⟩:∃f:X,l[a].2.1-l[a].1=(f:Z):=⟨(l[a].2.1-l[a].1).toNat,aa⟩;have an:(l[a].2.1-l[a].1).toNat=f:=aa;have d4:bO.wrap (l[a].2.1-1)=l[a].2.1-1:=cx aa aa;simp(disch:=omega) only[j,CO,MC _ d0,aF,xW,d4];by_cases a0:l[a].2.2.1.Pairwise (· < ·)
   rotate_left
   ·grind
   rw[aI a0];simp only[g7,show(br==br)=bt from rfl,bI];by_cases a3:f<=l[a].2.2.1.length
   rotate_left
   ·grind
   rw[aA aa];have bx:aq l[a].2.2.1 0=Y (l[a].2.2.1[0]'(by omega)):=fR (i:=0) (bh aa)
   have ce:aq l[a].2.2.1 (bO.wrap ((f:Z)-1))=Y (l[a].2.2.1[f-1]'(by omega)):=by grind [fR,bV,w3]
   have ci:aq l[a].2.2.1 (bO.wrap ((l[a].2.2.1.length:Z)-1))=Y (l[a].2.2.1[l[a].2.2.1.length-1]'(by omega)):=by grind [fR,bV,w3]
   simp only[an] at av;simp only[bx,ce,ci,aF];by_cases a4:l[a].2.2.1[0]'(by omega)=l[a].1
   rotate_left
   ·grind
   rw[aI a4];simp only[g7,show(br==br)=bt from rfl,bI];by_cases bl:l[a].2.2.1[f-1]'(by omega)=l[a].2.1-1
   rotate_left
   ·grind
   rw[aI bl];simp only[g7,show(br==br)=bt from rfl,bI];by_cases d7:l[a].2.2.1[l[a].2.2.1.length-1]'(by omega)>=(A.length:Z)
   ·grind
   have t:j5 A.length l[a]:=av.2 ⟨a0,a3,a4,bl,aa⟩;rw[aA d7];simp only[aF];by_cases r:l[a].2.2.1.length=f
   ·rw[aA aa];simp only[aF];by_cases I:l[a].2.2.2.1=-1
    ·have s:jD l l[a]:=.inl ⟨aa,I⟩;simp only[aI I,g7,bR];rw[aB ⟨t,s⟩];have:loop (σ:=ev) (ρ:=dE) (λU=>if U.1<(l[a].2.2.1.length:Z) then(aq l (-1)).bind λd8=>(aq l[a].2.2.1 U.1).bind λd9=>(tq (d8.2.2.1,d9,())).bind λek=>bif !ek.1 then Y (.inr (.inr (.inr (.inr (.inr (211,())))))) else Y (.inl (bO.wrap (U.1+1),())) else Y (.inr (.inl ()))) ((f:Z),())=Y (.inl ()):=by
      rw[yR];exact⟨1,by simp_all [aA,kE]⟩
     grind [jr]
    have s:¬jD l l[a]:=λc=>by
     rcases c with c|⟨c,_⟩
     ·omega
     omega
    grind
   have H:f<l[a].2.2.1.length:=aa;have fs:=(t.2 f (dj _) H H).2 aa;obtain⟨G,ft⟩:∃G:X,l[a].2.2.1[f]=(G:Z):=⟨(l[a].2.2.1[f]).toNat,aa⟩;have d5:G<A.length:=aa;have co:aq l[a].2.2.1 (f:Z)=Y (G:Z):=(by grind [fR,bV]);obtain⟨h,g,z,E⟩:=xS o d5;have am:hH (bk l) G l.length=(h:Z):=xT (m:=l.length) (λa d=>⟨d,o.1 a d⟩) g z E l.length g (bg _);have L:aq l (h:Z)=Y l[h]:=fR (bh g);rw[aB aa];simp only[co,aF,PH o D g z E];have R:=F _ (cK g);by_cases I:l[a].2.2.2.1=(h:Z)
   ·have eq:jD l l[a]↔∀e,f<=e->e<l[a].2.2.1.length->l[a].2.2.1.getD e 0∈l[h].2.2.1:=by
     unfold jD;rw[an];simp_all [gg,us,bh,sP,alW]
    simp only[aI I,g7,bR];refine aj (y:=if jD l l[a] then .inl () else .inr (.inr (.inr (211,())))) ?_ ?_
    ·refine aj (tY (τ:=bw) l[a].2.2.1.length (λe=>l[a].2.2.1.getD e 0∈l[h].2.2.1) () (.inl ()) (.inr (.inr (.inr (.inr (211,()))))) f bq a3 ?_ ?_) ?_
     ·intro e cv c1 _;have cs:aq l[a].2.2.1 (e:Z)=Y (l[a].2.2.1.getD e 0):=by
       grind [bV,fR]
      rw[aB aa,L,cs];simp only[aF,C0 _ _ R];by_cases w:l[a].2.2.1.getD e 0∈l[h].2.2.1
      ·simp(disch:=omega) only[w,alH,g7,bR,cp,jr]
      grind
     ·grind
     grind
    by_cases ap:jD l l[a]
    ·rw[aB ap,aB ⟨t,ap⟩];grind [jr]
    grind
   have s:¬jD l l[a]:=λc=>by
    rcases c with c|⟨c,aE,_⟩
    ·omega
    grind
   grind
  ·grind
  grind
 rintro(⟨⟩|p) c
 rotate_left
 ·obtain⟨r,rfl⟩:=c;exact bu.2 (by rw[aA (λc=>r ⟨c.2.1,c.2.2.1⟩)])
 obtain⟨t,s⟩:=c;simp only;have fl:gU A l↔∀b,0<=b->b<A.length->∀a,0<=a->a<(A.getD b []).length->(b:Z)<(A.getD b []).getD a 0->(A.getD b []).getD a 0∈g6 l (hH (bk l) b l.length):=by
  constructor
  ·rintro⟨_,_,_,c2⟩ b _ c a _ d Q;simp only[alW,bh c,sP] at d Q|-;simp only[bh d,sP] at Q|-;have fp:=(B.asc b c).2 _ (cK d);obtain⟨e,ad⟩:∃e:X,A[b][a]=(e:Z):=⟨A[b][a].toNat,aa⟩;rw[ad] at Q|-;exact c2 b e ⟨c,ad▸cK d⟩ aa
  intro c;refine⟨o,t,s,λb e d1 fn=>?_⟩;obtain⟨v,w⟩:=d1;obtain⟨a,d,q⟩:=hV.1 w;have:=c b (dj _) v a (dj _);grind
 refine ah.of_eq (y:=(if gU A l then(0:Z) else 211,())) ?_ bq;refine aj (tY (τ:=bw) A.length (λb=>∀a,0<=a->a<(A.getD b []).length->(b:Z)<(A.getD b []).getD a 0->(A.getD b []).getD a 0∈g6 l (hH (bk l) b l.length)) () (.inl ()) (.inr (211,())) 0 bq (dj _) ?_ ?_) ?_
 ·intro b _ v _;have dl:=fR (bh v);have fr:=B.rows _ (cK v);have ds:A.getD b []=A[b]:=ae;simp(disch:=omega) only[cW,aB,ds];obtain⟨h,g,z,E⟩:=xS o v;have am:hH (bk l) b l.length=(h:Z):=xT (m:=l.length) (λa d=>⟨d,o.1 a d⟩) g z E l.length g (bg _);have L:aq l (h:Z)=Y l[h]:=fR (bh g);have R:=F _ (cK g);refine aj (tY (τ:=bw) A[b].length (λa=>(b:Z)<A[b].getD a 0->A[b].getD a 0∈g6 l (hH (bk l) b l.length)) () (.inl ()) (.inr (.inr (.inr (211,())))) 0 bq (dj _) ?_ ?_) ?_
  ·intro a _ d _;have u:aq A[b] (a:Z)=Y (A[b].getD a 0):=by
    grind [bV,fR]
   simp(disch:=omega) only[dl,aF,aB,u,Ao];by_cases k:A[b].getD a 0>(b:Z)
   ·have bs:(b:Z)<A[b].getD a 0:=k;rw[aB k];simp only[PH o D g z E,aF,L,C0 _ _ R,am,us g,bs,aoa];by_cases w:A[b].getD a 0∈l[h].2.2.1
    ·simp(disch:=omega) only[w,alH,g7,bR,aF,cp,jr]
    grind
   have:(b:Z)<A[b].getD a 0->A[b].getD a 0∈g6 l (hH (bk l) b l.length):=λc=>absurd c k;rw[aA k,aB this];grind [jr]
  ·grind
  by_cases d2:∀a,0<=a->a<A[b].length->(b:Z)<A[b].getD a 0->A[b].getD a 0∈g6 l (hH (bk l) b l.length)
  ·simp(disch:=omega) only[aB d2,jr]
  grind
 ·grind
 grind
end
theorem ML {A:akW} (c:∀l∈A,l.length<4611686018427387904) {l:bp eE} (D:l.length<4611686018427387904) (F:∀b∈l,b.2.2.1.length<4611686018427387904):vQ ((A,()),l,())=Y (tK A l,()):=by
 unfold tK;by_cases a:iO A=0
 ·obtain⟨C,B⟩:=qx.1 a;rw[aA aa];grind [X3]
 simp_all [aB,Hu,aF,fJ,aD,mP,bI,vQ]
theorem MM {A:akW} (b:∀l∈A,l.length<4611686018427387904) {l:bp eE} (D:l.length<4611686018427387904) (F:∀c∈l,c.2.2.1.length<4611686018427387904):yn ((A,()),l,())=Y (tK A l,()):=by
 unfold tK;by_cases a:iO A=0
 ·obtain⟨C,B⟩:=qx.1 a;rw[aA aa];grind [ae5]
 rw[aB a];unfold yn;simp only[Cl A b,aF,fJ,aD a,mP,bI]
end
section
def be (a:ak6):ak7:=a.map λ(b:X)=>(b:Z)
theorem o7 (a b:ak6):be (a++b)=be a++be b:=by simp[be]
theorem fX (a:ak6):(be a).length=a.length:=by simp[be]
section
variable {n:X} {f:X->Z} (A:HH n f) (B:n<=200)
include A B
end
end
section
theorem yC {b:bp i} (d:a<b.length) (c:i):b.getD a c=b[a]:=by simp only[alW,bh d,sP]
section
variable {A:akW} (B:fw A) (C:A.length<=200)
include B C
end
end
section
theorem On {A:akW} (B:fw A) (c:d∈hh A a):∃b:X,d=(b:Z)/\b<A.length/\a<=b:=by have e:=c;unfold hh vo at c;grind
section
variable {A:akW} (B:fw A) (C:A.length<=200)
include B C
section
variable {D:ak7} {m:X} {s e:X->X} (F:UG A.length (R8 A)) (G:M1 A.length (R8 A) D m s e)
include F G
end
def xf (a:bp eE) (c b:X):Prop:=b<a.length/\bk a b<=c/\c<bk a (b+1)
omit B C in
theorem xf.last {c:bp eE} (f:mh h c) (d:xf c b a):hH (bk c) b c.length=(a:Z):=
 xT (m:=c.length) (λg e=>⟨e,f.1 g e⟩) d.1 d.2.1 d.2.2 c.length d.1 (bg _)
end
end
def gU.parent {b:bp eE} (q:gU u b) (g:a<b.length):(b[a].2.2.2.1=-1\/∃d:X,b[a].2.2.2.1=(d:Z)/\d<b.length)/\∀c,(e:c<b[a].2.2.1.length)->b[a].2.1<=b[a].2.2.1[c]->∃d:X,b[a].2.2.2.1=(d:Z)/\d<b.length/\b[a].2.2.1[c]∈g6 b (d:Z):=by
 obtain⟨k,r,p,_⟩:=q;obtain⟨z,A,B,C⟩:=(k.1 a g).at g;have l:=r a g;rcases p a g with⟨i,f⟩|⟨i,f,o⟩
 ·refine⟨.inl f,λc e v=>?_⟩;have:=(l.2 c (dj _) e e).1 aa;omega
 have y:=(l.2 _ (dj _) i i).2 (bg _);obtain⟨h,n⟩:∃h:X,b[a].2.2.1[(b[a].2.1-b[a].1).toNat]=(h:Z):=⟨(b[a].2.2.1[(b[a].2.1-b[a].1).toNat]).toNat,aa⟩;rw[n] at y;obtain⟨d,m,w,x⟩:=xS k (aa:h<u.length);have t:=xf.last k (⟨m,w,x⟩:xf b h d);rw[n,gg,t] at f;refine⟨.inr ⟨d,f,m⟩,λc e v=>?_⟩;refine⟨d,f,m,?_⟩;have s:(b[a].2.1-b[a].1).toNat<=c:=by
  rcases cY c (b[a].2.1-b[a].1).toNat with j|j
  ·have:=(l.2 c (dj _) e e).1 j;omega
  exact j
 have:=o c s e;rw[f] at this;exact this
structure pw {α:Type} (lt:α->α->bD):Prop where
 V9:∀a b,lt a b=bt->lt b a=br
 trans:∀a b c,lt b a=br->lt c b=br->lt c a=br
theorem pw.int:pw (λa b:Z=>bz (a<b)):=⟨λa b d=>by grind,λa b c e f=>by grind⟩
def uL {b:Type} (g:b->b->bD) (c:X->b) (e f:X):Prop:=∀d a,d<a->a<=e->a≠f->g (c a) (c d)=br
def px {b:Type} (f:b->b->bD) (c:X->b) (e:X):Prop:=∀d a,d<a->a<e->f (c a) (c d)=br
def swp {c:Type} (b:X->c) (a:X):X->c:=eK (eK b a (b (a-1))) (a-1) (b a)
def TR (b:X->i) (c:X):swp b a c=if c=a-1 then b a else if c=a then b (a-1) else b c:=rfl
def uL.swp {k:Type} {h:k->k->bD} (m:pw h) {f:X->k} {j a:X} (g:uL h f j a) (q:0<a) (r:a<=j) (n:h (f a) (f (a-1))=bt):uL h (swp f a) j (a-1):=by
 intro e b p i o;rw[TR,TR,aA o];by_cases c:b=a
 ·subst c;rw[aB bq];by_cases d:e=b-1
  ·rw[aB d];exact m.V9 _ _ n
  rw[aA d,aA aa];exact g e (b-1) aa aa aa
 rw[aA c];by_cases d:e=a-1
 ·rw[aB d];exact g a b aa i c
 rw[aA d];by_cases l:e=a
 ·rw[aB l];exact g (a-1) b aa i c
 rw[aA l];exact g e b p i c
theorem uL.done {e:i->i->bD} (k:pw e) {c:X->i} (j:uL e c b a) (n:a<=b) (d:a=0\/e (c a) (c (a-1))=br):px e c (b+1):=by
 intro g f l o;by_cases h:f=a
 ·subst h;rcases d with d|d
  ·omega
  by_cases m:g=f-1
  ·grind
  exact k.trans _ _ _ (j g (f-1) aa aa aa) d
 exact j g f l aa h
theorem TS {c:X->i} (f:0<a) (g:a<b):(aC b (swp c a)).Perm (aC b c):=by have d:a<(aC b c).length:=(by grind [cU]);have e:a-1<(aC b c).length:=aa;have:=List.set_set_perm d e;rw[kz,kz,ha,ha] at this;exact this
theorem Fx [Inhabited i] (a:bp i):a=aC a.length (λb=>a[b]?.getD default):=XX a _ (λb c=>by grind)
theorem Y2 (b:ak7) (C:b.length<=1000):ah (EC (b,0,(b.length:Z),())) (λd=>∃a,d.1=aC b.length a/\px (λf g=>bz (f<g)) a b.length/\d.1.Perm b):=by
 unfold EC;simp only[];generalize t:b.length=c at*;have u:bO.wrap (0+1)=((1:X):Z):=(by grind [cx]);rw[u];rcases qj c with z|w
 ·subst z;refine bF (P:=λd=>d.1=b) ?_ ?_
  ·refine als (λj=>j=(((1:X):Z),b,())) (λ_=>0) rfl ?_;rintro _ rfl;simp only[cW];rw[aA aa];grind [bu]
  rintro⟨d,_⟩ rfl;refine bu.2 ⟨λ_=>0,?_,λm n o p=>by omega,anp _⟩;show d=[];grind
 refine bF (P:=λd=>∃a,d.1=aC c a/\px (λf g=>bz (f<g)) a c/\d.1.Perm b) ?_ (λd y=>bu.2 y);refine ah.for c (λh A=>∃a,A=(aC c a,())/\px (λf g=>bz (f<g)) a h/\(aC c a).Perm b) rfl ⟨λh=>b[h]?.getD default,?_,λm n o p=>by omega,?_⟩ w ?_ ?_
 ·rw[<-t,<-Fx]
 ·rw[<-t,<-Fx]
 ·rintro h _ o p ⟨a,rfl,q,i⟩;simp only[cW];rw[aB aa];refine bF (P:=λd=>∃a,d=(aC c a,())/\px (λf g=>bz (f<g)) a (h+1)/\(aC c a).Perm b) ?_ ?_
  ·refine als (λj=>∃(e:X) (a:X->Z),j=((e:Z),aC c a,())/\e<=h/\uL (λf g=>bz (f<g)) a h e/\(aC c a).Perm b) (λj=>j.1.toNat) ⟨h,a,bq,bg _,λm n x E D=>q m n x aa,i⟩ ?_;rintro _ ⟨e,a,rfl,l,k,i⟩;simp only[Ao];by_cases r:0<e
   ·have B:e-1<c:=aa;have v:e<c:=aa;simp(disch:=omega) only[aB,cU,w3,eV,gV,aF,MV,cW];by_cases s:a e<a (e-1)
    ·rw[aB s];simp(disch:=omega) only[aF,cU,w3,eV,gV,ha];refine bu.2 ⟨⟨e-1,swp a e,bq,aa,k.swp pw.int r l ae,(TS r v).trans i⟩,?_⟩;omega
    rw[aA s];exact bu.2 ⟨a,bq,k.done pw.int l (.inr ae),i⟩
   rw[aA aa];exact bu.2 ⟨a,bq,k.done pw.int l (.inl aa),i⟩
  grind [jr,bu]
 rintro _ ⟨a,rfl,q,i⟩;simp only[cW];rw[aA aa];grind [bu]
theorem px.pairwise {b:X->Z} (e:px (λc d=>bz (c<d)) b a):(aC a b).Pairwise (· <= ·):=by rw[it];intro g h i j f;rw[kz,kz];have:=e g h f (by grind [cU]);grind
theorem MU (a:X) (c:a<=12):∃b,Ek ((a:Z),())=Y (b,()):=by
 have:a=0\/a=1\/a=2\/a=3\/a=4\/a=5\/a=6\/a=7\/a=8\/a=9\/a=10\/a=11\/a=12:=aa;rcases this with rfl|rfl|rfl|rfl|rfl|rfl|rfl|rfl|rfl|rfl|rfl|rfl|rfl
 ·exact⟨0,by kernel_rfl⟩
 ·exact⟨1,by kernel_rfl⟩
 ·exact⟨2,by kernel_rfl⟩
 ·exact⟨2,by kernel_rfl⟩
 ·exact⟨3,by kernel_rfl⟩
 ·exact⟨3,by kernel_rfl⟩
 ·exact⟨3,by kernel_rfl⟩
 ·exact⟨3,by kernel_rfl⟩
 ·exact⟨4,by kernel_rfl⟩
 ·exact⟨4,by kernel_rfl⟩
 ·exact⟨4,by kernel_rfl⟩
 ·exact⟨4,by kernel_rfl⟩
 exact⟨4,by kernel_rfl⟩
theorem ad1 (a:ak7) (c:Z) (h:a.length<=12):ah (EF (a,0,(a.length:Z),c,())) (λb=>b.1.Pairwise (· <= ·)/\b.1.Perm a):=by obtain⟨b,i,g,f,e,d⟩:=Y2 a aa;refine⟨b,?_,by rw[f];exact e.pairwise,d⟩;unfold EF;dsimp only;rw[Qk];dsimp only;have j:bO.wrap ((a.length:Z)-0)=((a.length:X):Z):=(by rw[anX];grind [CO]);grind
theorem Vp (a:ak7) (c:a.length<=12):ah (AP (a,())) (λb=>b.1.Pairwise (· <= ·)/\b.1.Perm a):=by grind [bF,ad1,bu,MU,Mx,AP]
section
open Go
theorem WY (h:c.Pairwise (· <= ·)):(al2 c).length<c.length↔¬c.Nodup:=by
 have g:(al2 c).length=((bK c.length).filter (aob c.toArray)).length:=(by simp[al2,Lib.compactUpTo]);have e:(∀a,a<c.length->aob c.toArray a=bt)↔c.Nodup:=by
  have f:∀a,(b:a<c.length)->(aob c.toArray a=bt↔a=0\/c[a]≠c[a-1]):=λa b=>(by grind [aob]);constructor
  ·intro b;have d:c.Pairwise (· < ·):=by
    grind [ala,B6]
   exact d.imp (λb=>by omega)
  grind [amw]
 grind [cq,amf,List.length_filter_eq_length_iff,amA,alB]
def agE (a:ak7) (e:a.length<=12):DV (a,())=Y (bz (¬a.Nodup),()):=by obtain⟨c,g,h,b⟩:=Vp a e;have f:=b.length_eq;unfold DV CH;simp only[g,jv,aF];rw[show b5 a.length 1000000=bt from aql aa];simp only[bI];rw[show b5 c.1.length 1000000=bt from aql aa];simp only[bI,jv];have d:bz ((al2 c.1).length<a.length)=bz (¬a.Nodup):=(by rw[cy,<-f,WY h,b.nodup_iff]);rw[d]
def iH (a:X) (b:X->X->bD):eB:=aC a λc=>aC a (b c)
theorem BJ (a:X) (b:X->X->bD):(iH a b).length=a:=cU a _
def Qr {d:X->X->bD} (e:∀b c,b<a->c<a->v b c=d b c):iH a v=iH a d:=c4 λb f=>c4 λc g=>e b c f g
theorem MY (a:X) (e:a<=4294967296):Ax ((a:Z),())=Y (iH a λ_ _=>br,()):=by
 unfold Ax;simp only[];rw[hP e];simp only[aF];refine aj (y:=(iH a λ_ _=>br,())) (BI a (λd=>(aC a (λb=>if b<d then bJ a br else[]),())) 0 bq ?_ (dj _) ?_ ?_) rfl
 ·rw[iF];simp
 ·intro d _ f;simp(disch:=omega) only[cU,rp,cW,aB,aF,eV,gV,ha,jr];congr 4;refine c4 λb c=>?_;simp only[eK];grind
 simp only[rp,cW];rw[aA aa];congr 2;refine b4 (·,()) (c4 λb c=>?_);rw[aB c,iF]
theorem MT {n:X} {B:X->X->bD} {i j:X} (k:i<n) (l:j<n):AA (iH n B,(i:Z),(j:Z),())=Y (iH n (λa b=>B a b||(bz (i≠j)&&((bz (a=i)&&bz (b=j))||(bz (a=j)&&bz (b=i))))),()):=by
 unfold AA;simp only[fJ];by_cases e:i=j
 ·simp_all
 rw[aD (aa:¬((i:Z)=(j:Z)))];unfold iH;simp(disch:=omega) only[mP,bI,cU,eV,aF,gV,jv,ha];rw[show eK (λg=>aC n (B g)) i (aC n (eK (B i) j bt)) j=aC n (B j) from gT _ _ (λd=>e d.symm)];simp(disch:=omega) only[cU,eV,aF,gV,jv,ha];congr 2;refine c4 λa h=>?_;simp only[eK];by_cases c:a=j
 ·rw[aB c,c];grind [c4,eK]
 rw[aA c];by_cases f:a=i
 ·subst f;rw[aB bq];grind [c4,eK]
 simp_all
theorem U7 (i:b<=4294967296) (f:a<b):DS (iH b v,(a:Z),())=Y (be ((bK b).filter (v a)),()):=by
 unfold DS;simp only[];rw[show aq (iH b v) (a:Z)=Y (aC b (v a)) from r7 f];simp only[aF];refine aj (y:=(be ((bK b).filter (v a)),())) (BI b (λc=>(be ((bK c).filter (v a)),())) 0 bq rfl (dj _) ?_ ?_) rfl
 ·intro c _ g;have h:(be ((bK c).filter (v a))).length<=c:=(by grind [alB,fX]);have e:be ((bK (c+1)).filter (v a))=if v a c=bt then be ((bK c).filter (v a))++[(c:Z)] else be ((bK c).filter (v a)):=by
   grind [alu,o7,be]
  simp(disch:=omega) only[cU,cW,aB,r7,aF,jr];rw[e];by_cases d:v a c=bt
  ·rw[aB d,d,c9 ae];rfl
  grind
 simp_all [cU,cW,aA]
def kB (a:X) (b:X->X->bD):akW:=aC a λc=>be ((bK a).filter (b c))
theorem MR (e:a<=4294967296):Az (iH a v,())=Y ((kB a v,()),()):=by
 unfold Az;simp only[BJ];rw[hP e];simp only[aF];refine aj (y:=(([],()),(kB a v,()),())) (BI a (λd=>(([],()),(aC a (λb=>if b<d then be ((bK a).filter (v b)) else[]),()),())) 0 bq ?_ (dj _) ?_ ?_) rfl
 ·rw[iF];simp
 ·intro d _ f;simp(disch:=omega) only[cW,aB,U7,aF,cU,eV,gV,jv,ha,jr];congr 6;refine c4 λb c=>?_;simp only[eK];grind
 simp only[cW];rw[aA aa];have:(aC a λb=>if b<a then be ((bK a).filter (v b)) else[])=kB a v:=c4 λb c=>(by rw[aB c]);grind
end
section
open Go
def e8 (a:ak7) (b:X):Prop:=a.length=b/\(∀c∈a,0<=c/\c<(b:Z))/\a.Nodup
open Classical in
theorem Vd (a:ak7) (c:X) (s:c<=4294967296):EI (a,(c:Z),())=Y (bz (e8 a c),()):=by
 unfold EI;simp only[fJ];by_cases m:a.length=c
 ·rw[aI (aa:(((a.length:X):Z)=(c:Z)))];simp only[g7,bR,hP s,aF,iF];rw[<-bQ];refine bF (P:=λu=>match u with|.inl _=>e8 a c|.inr v=>v=(br,())/\¬e8 a c) ?_ ?_
  ·refine ah.for c (λb w=>w=(aC c (λp=>bz ((p:Z)∈a.take b)),())/\(∀e,(d:e<a.length)->e<b->0<=a[e]/\a[e]<(c:Z))/\(a.take b).Nodup) (i0:=0) rfl ⟨ac,λe _ d=>by omega,ac⟩ (dj _) ?_ ?_
   ·rintro b _ _ x ⟨rfl,t,q⟩;have l:b<a.length:=aa;have k:aq a (b:Z)=Y a[b]:=fR (bh l);have o:a[b]∈a:=cK l;simp(disch:=omega) only[cW,aB,k,aF,xW];by_cases i:a[b]<0
    ·rw[aB i];exact bu.2 ⟨bq,λd=>by have:=d.2.1 _ o;omega⟩
    rw[aA i];by_cases j:a[b]>=(c:Z)
    ·rw[aB j];exact bu.2 ⟨bq,λd=>by have:=d.2.1 _ o;omega⟩
    rw[aA j];obtain⟨f,h⟩:∃f:X,a[b]=(f:Z):=⟨a[b].toNat,aa⟩;have B:f<c:=aa;rw[h];simp(disch:=omega) only[cU,eV,aF,gV,cW];by_cases g:(f:Z)∈a.take b
    ·rw[aB g];refine bu.2 ⟨bq,λd=>?_⟩;obtain⟨D,r,n⟩:=hV.1 g;simp only[gu] at r;simp only[List.getElem_take] at n;have:=(qg d.2.2).1 (n.trans h.symm);omega
    rw[aA g];simp(disch:=omega) only[aF,k,h,cU,eV,gV,ha,jr];have A:a.take (b+1)=a.take b++[(f:Z)]:=(by grind [uz]);refine bu.2 ⟨bq,?_,λe y z=>?_,?_⟩
    ·show((_,()):_×bw)=_;refine b4 (·,()) (c4 λp _=>?_);simp only[eK];grind
    ·grind
    grind
   rintro _ ⟨rfl,t,q⟩;simp(disch:=omega) only[cW,aA];refine bu.2 ⟨m,λE C=>?_,?_⟩
   ·grind [amc]
   grind
  grind [bu,aI,aD]
 rw[aD (aa:¬(((a.length:X):Z)=(c:Z)))];simp only[mP,bI];rw[aD (λd=>m d.1)]
def nc (a:akW) (b:ak7):Z:=open Classical in if iO a≠0 then iO a else if b.length≠a.length then 2 else if e8 b a.length then 0 else 90
theorem LD (d:∀h∈u,h.length<4611686018427387904) (a:ak7):rS ((u,()),a,())=Y (if nc u a=0 then((ki (kD u a),()),0,()) else(([],()),nc u a,())):=by
 classical
 unfold rS nc;simp only[Cl u d,aF,fJ];by_cases c:iO u=0
 ·obtain⟨g,e⟩:=qx.1 c;rw[aI c];simp only[g7,bR,c,ne_eq,amS,if_false];by_cases f:a.length=u.length
  ·rw[aI (aa:(((a.length:X):Z)=((u.length:X):Z)))];simp only[g7,bR,f,amS,if_false];rw[Vd a u.length aa];simp only[aF];by_cases b:e8 a u.length
   ·rw[aI b];simp only[g7,bR,aB b,cp];rw[U4 e d g b.2.1 b.2.2 aa];rfl
   grind
  grind
 grind
theorem ag8 (b:akW) (a:Z):DW ((b,()),a,())=Y (bz (0<=a/\a<(b.length:Z)),()):=by unfold DW;grind
theorem adP (d:akW) (a:ak7) (j:a.length<4611686018427387904):Ex (a,(Y (d,()),()),())=Y (bz (¬∀c∈a,0<=c/\c<(d.length:Z)),()):=by
 classical
 unfold Ex IQ;simp only[];rw[<-bQ];have i:(∀c∈a,0<=c/\c<(d.length:Z))↔∀b,b<a.length->∀e:b<a.length,0<=a[b]/\a[b]<(d.length:Z):=
  ⟨λe b _ f=>e _ (cK f),λe c k=>by grind [amc]⟩
 refine bF (P:=λg=>bz (g.1>=0)=bz (¬∀c∈a,0<=c/\c<(d.length:Z))) ?_ (λg h=>bu.2 (by rw[h]));refine bF (Kt a.length (λb=>∀e:b<a.length,0<=a[b]/\a[b]<(d.length:Z)) ?_ ?_) ?_
 ·intro b f;simp(disch:=omega) only[cW,aB,fR (bh f),aF,jr];unfold IC;simp only[aF,ag8];grind
 ·grind
 grind [bu,aD,aI]
theorem Ve (i:∀m∈u,m.length<4611686018427387904) (a:ak7) (k:u.length<=200->fw u->u.length<=12) (l:a.length<4611686018427387904):DR ((u,()),a,())=Y (nc u a,()):=by
 classical
 unfold DR nc;simp only[Hu u i,aF,fJ];by_cases e:iO u=0
 ·obtain⟨j,h⟩:=qx.1 e;have n:=k j h;rw[aI e];simp only[g7,bR,e,ne_eq,amS,if_false];by_cases f:a.length=u.length
  ·rw[aI (aa:(((a.length:X):Z)=((u.length:X):Z)))];simp only[g7,bR,f,amS,if_false];rw[adP u a l];simp only[aF];by_cases b:∀g∈a,0<=g/\g<(u.length:Z)
   ·rw[aD (cw b)];simp only[alC,bI];rw[agE a aa];simp only[aF,cW];by_cases c:a.Nodup
    ·rw[aA (cw c),aB ⟨f,b,c⟩]
    rw[aB c,aA (λd=>c d.2.2)]
   rw[aI b,aA (λd=>b d.2.1)];rfl
  grind
 grind
end
section
open Go
def qK (c:akW) (a:ak7) (b d:X):bD:=bz (a.getD d 0∈c.getD (a.getD b 0).toNat [])
theorem PN (k:fw u) (i:∀d∈c,0<=d/\d<(u.length:Z)) (l:a<c.length) (m:b<c.length):qK u c a b=qK u c b a:=by have n:=i _ (cK l);have o:=i _ (cK m);have t:∀d e:Z,0<=d/\d<(u.length:Z)->0<=e/\e<(u.length:Z)->e∈u.getD d.toNat []->d∈u.getD e.toNat []:=λd e r s h=>(by obtain⟨f,rfl⟩:∃f:X,d=(f:Z):=⟨d.toNat,aa⟩;obtain⟨g,rfl⟩:∃g:X,e=(g:Z):=⟨e.toNat,aa⟩;simp only[gg] at h|-;have j:f<u.length:=aa;have q:g<u.length:=aa;rw[yC j] at h;obtain⟨_,p⟩:=ao8 k f g ⟨j,h⟩;grind);unfold qK;grind
theorem Yv (f:fw u) (g:∀e∈c,0<=e/\e<(u.length:Z)):kB c.length (λa b=>bz (a≠b)&&qK u c a b)=ki (kD u c):=by unfold kB ki;rw[yG];refine iL λi d=>?_;have d:=hN.1 d;unfold be m9;refine b4 _ (qc λj h=>?_);grind [Bool.or_self,PN,If,qK]
theorem YW (r:fw u) (s:∀c∈u,c.length<4611686018427387904) (x:∀o∈c,0<=o/\o<(u.length:Z)) (G:c.length<=400):DU ((u,()),c,())=Y ((ki (kD u c),()),()):=by
 generalize m:c.length=d at*
 let h:X->X->X->X->bD:=λa b e f=>bz (e≠f)&&(qK u c e f&&((bz (e<a)&&bz (f<a))||((bz (e=a)&&bz (f<b))||(bz (f=a)&&bz (e<b)))))
 unfold DU;simp only[m];rw[MY d aa];simp only[aF];refine aj (y:=(([],()),iH d (h d 0),())) (BI d (λa=>(([],()),iH d (h a 0),())) 0 bq ?_ (dj _) ?_ ?_) ?_
 ·grind
 ·intro a _ w;have l:a<c.length:=aa;have t:aq c (a:Z)=Y c[a]:=fR (bh l);have k:=x _ (cK l);obtain⟨g,n⟩:∃g:X,c[a]=(g:Z):=⟨c[a].toNat,aa⟩;have i:g<u.length:=aa;simp(disch:=omega) only[cW,aB,t,aF,wv,m,qN,jv,n,mm];have z:(c.take a).length=a:=ae;refine aj (y:=(([],()),iH d (h a a),())) (BI a (λb=>(([],()),iH d (h a b),())) 0 bq rfl (dj _) ?_ ?_) ?_
  ·intro b _ E;have F:b<c.length:=aa;have v:aq (c.take a) (b:Z)=Y c[b]:=fR ae;simp(disch:=omega) only[z,cW,aB,v,aF,jr];rw[J7 u g c[b] i (s _ (cK i)) ((HX u).1 r g i).1];simp only[aF,cW];have p:qK u c a b=bz (c[b]∈u[g]):=by
    grind [yC,alO,qK]
   have q:qK u c b a=bz (c[b]∈u[g]):=(by grind [PN]);by_cases j:c[b]∈u[g]
   ·rw[aB j,MT w aa];simp only[aF];refine b4 (λA=>Y (Sum.inl (((b+1:X):Z),([],()),A,()))) (Qr λe f _ _=>?_);rw[aI j] at p q;simp only[h];rw[xa];simp only[jO,cL,alD];constructor
    ·rintro(⟨k,C,D⟩|⟨k,⟨rfl,rfl⟩|⟨rfl,rfl⟩⟩)
     ·grind
     ·grind
     grind
    grind
   grind
  ·grind
  simp(disch:=omega) only[jr];grind
 ·grind
 rw[MR aa];simp only[aF];have B:kB d (h d 0)=kB d (λe f=>bz (e≠f)&&qK u c e f):=(by refine c4 λg n=>b4 be (qc λI H=>?_);grind);grind [Yv]
theorem Vk (c:∀j∈u,j.length<4611686018427387904) (a:ak7) (g:u.length<=200->fw u->u.length<=12) (h:a.length<4611686018427387904):Ay ((u,()),a,())=Y (if nc u a=0 then((ki (kD u a),()),0,()) else(([],()),nc u a,())):=by
 classical
 unfold Ay;simp only[Ve c a g h,aF,fJ];by_cases b:nc u a=0
 ·rw[aI b,aB b];simp only[g7,bR];have e:iO u=0:=by
   by_cases i:iO u=0
   ·exact i
   simp_all [aB,nc,absurd]
  obtain⟨k,f⟩:=qx.1 e;have d:e8 a u.length:=(by unfold nc at b;grind);rw[YW f c d.2.1 (by have:=d.1;omega)];rfl
 grind
end
def kk (E:bp c5) (b c:X):bD:=E.any λa=>bz (a.1≠a.2.1)&&((bz ((b:Z)=a.1)&&bz ((c:Z)=a.2.1))||(bz ((b:Z)=a.2.1)&&bz ((c:Z)=a.1)))
def me (E:bp c5) (b c:X):bD:=E.any λa=>bz ((b:Z)=a.1)&&bz ((c:Z)=a.2.1)
theorem H2 {b:i->bD} {E:bp i} (c:a<E.length):(E.take (a+1)).any b=((E.take a).any b||b E[a]):=by grind [ct,bV]
theorem ZX (a:X) (b:X->X->bD) (e:∀c d,b c d=br):(bJ a (bJ a br))=iH a b:=by grind [c4,iF,iH]
theorem Wf (c:b<a) (d:h<a):hX (iH a v) b h=v b h:=by grind [h0,aC,hX,iH]
theorem Pn (d:X) (b:X->X->bD):ki (iH d b)=kB d λa c=>a !=c&&(b a c||b c a):=by unfold ki;rw[BJ];refine c4 λa e=>?_;grind [Wf,List.filter_congr,m9,be]
theorem PR {E:bp c5} (a b:X):(a !=b&&(me E a b||me E b a))=kk E a b:=by
 induction E with
 |nil=>simp[me,kk]
 |cons h E g=>
  unfold me kk at*;simp only[List.any_cons];rw[<-g,xa];simp only[cL,jO,bne_iff_ne,alD];constructor
  ·rintro⟨f,(⟨d,e⟩|c)|(⟨d,e⟩|c)⟩
   ·omega
   ·grind
   ·omega
   grind
  rintro(⟨f,⟨d,e⟩|⟨d,e⟩⟩|⟨f,c|c⟩)
  ·omega
  ·omega
  ·grind
  grind
theorem U0 (f:gK a a o c p) (m:fQ a a o c p=0):Aw (((a:Z),(a:Z),o,c,p,()),())=Y ((kB a (kk (cZ o c p a)),()),0,()):=by
 have k:=(jI.1 m).1;have u:=rY k;have y:(cZ o c p a).length<=10000:=(by rw[Bo k a (cc _)];have:=k.qO a (cc _);have:=f.hi;omega);unfold Aw;refine aj f.check ?_;dsimp only;rw[m,fJ,aI bq,fJ,aI bq];have x:=f.hc;refine aj (MY a aa) (aj (UO f m) ?_);dsimp only;generalize cZ o c p a=E at*;refine bQ.1 ?_;refine bF (P:=λv=>v=(([],()),iH a (kk E),())) ?_ ?_
 ·refine bP E.length (λb w=>w=((b:Z),([],()),iH a (kk (E.take b)),E,())) rfl ?_ ?_
  ·rintro b _ l rfl;dsimp only;rw[aS (aI (ae:(b:Z)<ar E)),jM l,a9 aa];have t:=u E[b] (b1 l);obtain⟨d,q⟩:=cC t.1;obtain⟨e,r⟩:=cC t.2.2.1;have s:=MT (n:=a) (B:=kk (E.take b)) (i:=d) (j:=e) aa aa;rw[<-q,<-r] at s;refine bC s (bu.2 ?_);dsimp only;have:iH a (λg h=>kk (E.take b) g h||(bz (d≠e)&&((bz (g=d)&&bz (h=e))||(bz (g=e)&&bz (h=d)))))=iH a (kk (E.take (b+1))):=by
    refine Qr λz A _ _=>?_;unfold kk;rw[H2 l,q,r];grind
   grind
  rintro _ rfl;dsimp only;rw[aP (aD (ae:¬((E.length:Z)<ar E))),cj (cc _)];grind [bu]
 grind [bC,MR,bu]
theorem Sw (f:gK a a o c p) (j:fQ a a o c p=0):tB (((a:Z),(a:Z),o,c,p,()),())=Y ((kB a (kk (cZ o c p a)),()),0,()):=by
 have h:=(jI.1 j).1;have q:=rY h;have y:(cZ o c p a).length<=10000:=(by rw[Bo h a (cc _)];have:=h.qO a (cc _);have:=f.hi;omega);unfold tB;refine aj f.wL ?_;dsimp only;rw[j,fJ,aI bq,fJ,aI bq];have x:=f.hc;refine aj (OQ a aa) (aj (Sv f j) ?_);dsimp only;generalize cZ o c p a=E at*;refine bQ.1 ?_;refine bF (P:=λv=>v=(([],()),iH a (me E),())) ?_ ?_
 ·refine bP E.length (λd w=>w=((d:Z),([],()),iH a (me (E.take d)),())) ?_ ?_ ?_
  ·rw[ZX a (me (E.take 0)) λb g=>rfl];rfl
  ·rintro d _ i rfl;dsimp only;rw[aS (aI (ae:(d:Z)<ar E)),a9 aa];have n:=q E[d] (b1 i);obtain⟨e,r⟩:=cC n.1;obtain⟨k,s⟩:=cC n.2.2.1;have m:e<a:=aa;have t:k<a:=aa;refine bC (eP i) ?_;rw[r];refine bC (eV (by grind [BJ])) (bC (eP i) ?_);rw[s];unfold iH;rw[gV m,bM];refine bC (eV (by grind [cU])) ?_;rw[gV m,gV t,ha,amP,bM,ha];refine bu.2 ?_;have:aC a (eK (λb=>aC a (me (E.take d) b)) e (aC a (eK (me (E.take d) e) k bt)))=aC a λb=>aC a (me (E.take (d+1)) b):=by
    refine c4 λb z=>?_;by_cases l:b=e
    ·subst l;grind [gT,aD,gA,H2,c4,me]
    rw[gT _ _ l];grind [H2,aD,c4,me]
   grind
  rintro _ rfl;dsimp only;rw[aP (aD (ae:¬((E.length:Z)<ar E))),cj (cc _)];grind [bu]
 rintro _ rfl;dsimp only;refine bC (MO _ (λA u=>?_) (by grind [BJ])) (bu.2 ?_)
 ·rw[BJ];unfold iH aC at u;grind
 dsimp only;rw[Pn];have:(λb g=>b !=g&&(me E b g||me E g b))=kk E:=(by grind [PR]);grind
section
open Go
def og (b:ak7) (a:X):X:=(b.getD a 0).toNat
theorem e8.get {n:X} (b:e8 c n) (d:a<n):aq c (a:Z)=Y ((og c a:X):Z)/\og c a<n:=by have e:a<c.length:=(by rw[b.1];exact d);have f:=b.2.1 _ (cK e);grind [fR,bV,yC,og]
theorem e8.inj (d:e8 c b) {j:X} (h:j<b) (i:a<b) (e:og c j=og c a):j=a:=by have f:j<c.length:=(by rw[d.1];exact h);have g:a<c.length:=(by rw[d.1];exact i);have k:=d.2.1 _ (cK f);have l:=d.2.1 _ (cK g);unfold og at e;rw[yC f,yC g] at e;exact(qg d.2.2).1 aa
end
section
open Go
theorem aaw:∀{n:X} {a:ak6},a.Nodup->(∀d∈a,d<n)->a.length<=n:=by
 intro n
 induction n with
 |zero=>intro a _ b;cases a with
  |nil=>grind
  |cons e a=>grind [ao6]
 |succ n g=>
  intro a c b;have f:(a.erase n).Nodup:=c.erase n;grind
section
variable {A:akW} (B:fw A)
include B
end
end
section
open Go
def Fk (A:akW) (a:Z):X:=(A.getD a.toNat []).length
section
variable {A:akW} (B:fw A) (C:A.length<=200)
include B C
end
end
section
open Go
def FV (k:Z->Z->ak4) (l:ak7) (f j:Z):bA er:=
 (loop (σ:=eg) (ρ:=er) (λ(d,g,_)=>
  bif bz (d<j) then
 (loop (σ:=eg) (ρ:=er) (λ(a,c,_)=>
 bE (α:=er⊕dN) (bif bz (a>f)==bt then(bm c.length a).bind λv=>
 (ba c v λo=>Y o).bind λz=>
 (bm c.length (bO.wrap (a-(1:Z)))).bind λs=>
 (ba c s λp=>Y p).bind λA=>
 (k z A).bind λ(y,_)=>
  bif bz (y<(0:Z)) then
 Y (.inl (c,())) else
 Y (.inr (.inr (c,()))) else Y (.inr (.inr (c,())))) λw=>match w with
 |.inl (b,_)=>(
 (bm b.length (bO.wrap (a-(1:Z)))).bind λt=>
 (ba b t λq=>Y q).bind λB=>
 (bm b.length a).bind λu=>
 (ba b u λr=>Y r).bind λC=>
 (bm b.length a).bind λh=>
 (ba b h λ_=>Y (b.set h B)).bind λe=>
 (bm e.length (bO.wrap (a-(1:Z)))).bind λi=>
 (ba e i λ_=>Y (e.set i C)).bind λD=>
 Y (.inl (bO.wrap (a-(1:Z)),D,())))
 |.inr x=>Y x) (d,g,())).bind λ(m,_)=>
 Y (.inl (bO.wrap (d+(1:Z)),m,())) else
 Y (.inr (g,()))) (bO.wrap (f+(1:Z)),l,())).bind λ(n,_)=>
 Y (n,())
def YY {cmp:Z->Z->ak4} {h:Z->Z->bD} (m:pw h) (c:ak7) (A:∀r s,r∈c->s∈c->∃d,cmp r s=Y (d,())/\(d<0↔h r s=bt)) (I:c.length<=1000):ah (FV cmp c 0 (c.length:Z)) (λd=>∃a,d.1=aC c.length a/\px h a c.length/\d.1.Perm c):=by
 unfold FV;generalize o:c.length=e at*;have z:bO.wrap (0+1)=((1:X):Z):=(by rw[cx]<;>omega);rw[z];rcases qj e with G|C
 ·subst G;refine bF (P:=λd=>d.1=c) ?_ ?_
  ·refine als (λj=>j=(((1:X):Z),c,())) (λ_=>0) rfl ?_;rintro _ rfl;simp only[cW];rw[aA aa];exact bu.2 bq
  rintro⟨d,_⟩ rfl;refine bu.2 ⟨λ_=>0,?_,λp q t u=>by omega,anp _⟩;show d=[];exact rk o
 refine bF (P:=λd=>∃a,d.1=aC e a/\px h a e/\d.1.Perm c) ?_ (λd E=>bu.2 E);refine ah.for e (λg H=>∃a,H=(aC e a,())/\px h a g/\(aC e a).Perm c) rfl ⟨λg=>c[g]?.getD default,?_,λp q t u=>by omega,?_⟩ C ?_ ?_
 ·rw[<-o,<-Fx]
 ·rw[<-o,<-Fx]
 ·rintro g _ t u ⟨a,rfl,i,f⟩;simp only[cW];rw[aB aa];refine bF (P:=λd=>∃a,d=(aC e a,())/\px h a (g+1)/\(aC e a).Perm c) ?_ ?_
  ·refine als (λj=>∃(b:X) (a:X->Z),j=((b:Z),aC e a,())/\b<=g/\uL h a g b/\(aC e a).Perm c) (λj=>j.1.toNat) ⟨g,a,bq,bg _,λp q D K J=>i p q D aa,f⟩ ?_;rintro _ ⟨b,a,rfl,n,l,f⟩;simp only[Ao];by_cases v:0<b
   ·have B:b-1<e:=aa;have w:b<e:=aa;obtain⟨d,F,x⟩:=A (a b) (a (b-1)) (f.mem_iff.1 (Qt.2 ⟨b,w,bq⟩)) (f.mem_iff.1 (Qt.2 ⟨b-1,B,bq⟩));simp(disch:=omega) only[aB,cU,w3,eV,gV,aF,F,cW];by_cases k:h (a b) (a (b-1))=bt
    ·rw[aB (x.2 k)];simp(disch:=omega) only[aF,cU,w3,eV,gV,ha];refine bu.2 ⟨⟨b-1,swp a b,bq,aa,l.swp m v n k,(TS v w).trans f⟩,?_⟩;show((b-1:X):Z).toNat<((b:X):Z).toNat;omega
    rw[aA (λy=>k (x.1 y))];exact bu.2 ⟨a,bq,l.done m n (.inr (by simpa using k)),f⟩
   rw[aA aa];exact bu.2 ⟨a,bq,l.done m n (.inl aa),f⟩
  rintro _ ⟨a,rfl,i,f⟩;simp(disch:=omega) only[jr];exact bu.2 ⟨bq,a,bq,i,f⟩
 rintro _ ⟨a,rfl,i,f⟩;simp only[cW];rw[aA aa];exact bu.2 ⟨a,bq,i,f⟩
def P9 (a:akW) (b c:Z):Prop:=Fk a b<Fk a c\/(Fk a b=Fk a c/\b<c)
instance(a:akW) (b c:Z):alP (P9 a b c):=by unfold P9;exact inferInstance
end
section
open Go
def h9 (o:ak7) (a:X):X:=o.idxOf (a:Z)
section
variable {o:ak7} {n:X} (A:e8 o n)
include A
theorem e8.mem (j:a<n):(a:Z)∈o:=by
 apply Classical.byContradiction;intro d;obtain⟨g,h,i⟩:=A;have e:o=be (o.map alI):=by
  unfold be;rw[pp]
  conv=>lhs;rw[<-List.map_id o]
  grind [alq]
 have b:(o.map alI).Nodup:=(by grind [ala,b1]);have c:a∉o.map alI:=λf=>d ae;have:=aaw (n:=n) (lx.2 ⟨c,b⟩) (λl k=>by
  grind)
 grind
theorem e8.pos (d:a<n):h9 o a<n/\og o (h9 o a)=a:=by have b:=A.mem d;have c:h9 o a<o.length:=C4.2 b;refine⟨by rw[<-A.1];exact c,?_⟩;grind [yC,h9,og]
theorem e8.Sh (b:a<n):h9 o (og o a)=a:=by have c:=(A.get b).2;obtain⟨d,e⟩:=A.pos c;exact A.inj d b e
end
section
variable {B:akW} (C:fw B) {o:ak7} (A:e8 o B.length)
include C A
end
end
def nm (E:bp c5) (b c:Z):Z:=match E.find? λa=>bz (a.1=b)&&bz (a.2.1=c) with
 |some a=>a.2.2.1
 |none=>0
theorem XG {E:bp c5} (i:E.Pairwise hK) {a:c5} (c:N∈E) (d:a∈E) (g:N.1=a.1) (h:N.2.1=a.2.1):N=a:=by
 obtain⟨e,j,rfl⟩:=hV.1 c;obtain⟨f,k,rfl⟩:=hV.1 d;rcases sO e f with b|b|b
 ·grind [ala,hK]
 ·grind
 grind [ala,hK]
theorem Um {E:bp c5} (e:E.Pairwise hK) (f:N∈E):nm E N.1 N.2.1=N.2.2.1:=by
 unfold nm;cases b:E.find? λa=>bz (a.1=N.1)&&bz (a.2.1=N.2.1) with
 |none=>
  grind
 |some a=>
  have c:=List.find?_some b;have d:=HE b;simp only[cL,alD] at c;grind [XG]
theorem ag1 {E:bp c5} (b:∀a∈E,¬(a.1=d/\a.2.1=k)):nm E d k=0:=by grind [List.find?_eq_none,nm]
theorem Un {E:bp c5} (d:(E++[N]).Pairwise hK) (b c:Z):nm (E++[N]) b c=if N.1=b/\N.2.1=c then N.2.2.1 else nm E b c:=by
 by_cases a:N.1=b/\N.2.1=c
 ·rw[aB a,<-a.1,<-a.2,Um d ac]
 rw[aA a];unfold nm;grind
theorem ag0 {E:bp c5} (f:∀d∈E,eH d.2.2.1) (b c:Z):eH (nm E b c):=by
 unfold nm;cases e:E.find? λa=>bz (a.1=b)&&bz (a.2.1=c) with
 |none=>exact⟨ab,ab⟩
 |some a=>grind
theorem Ul {E:bp c5} (d:∀c∈E,cH c.2.2.1≠2047) (a b:Z):cH (nm E a b)≠2047:=by grind [aqm,decide,cH,nm]
theorem Qs (f:gO h b c o p) (i:a<b):N∈cZ c o p b/\N.2.1=(a:Z)↔∃d:X,c.getD a 0<=(d:Z)/\(d:Z)<c.getD (a+1) 0/\N=(o.getD d 0,(a:Z),p.getD d 0,()):=by
 have r:=f.pos a aa;have s:=f.pos (a+1) aa;constructor
 ·rintro⟨e,j⟩;obtain⟨g,m,e⟩:=BP.1 e;obtain⟨t,q,rfl⟩:=wm.1 e;have n:g=a:=ae;grind
 rintro⟨d,k,l,rfl⟩;refine⟨BP.2 ⟨a,i,wm.2 ⟨d-(c.getD a 0).toNat,aa,?_⟩⟩,bq⟩;grind
theorem St (k:gK h b o c p) (w:fQ h b o c p=0) (i:Z) (n:a<b):tz (((h:Z),(b:Z),o,c,p,()),i,(a:Z),())=Y (nm (cZ o c p b) i (a:Z),()):=by
 have f:=(jI.1 w).1;have A:=f.pos a aa;have B:=f.pos (a+1) aa;have I:=f.qO (a+1) aa;have J:=f.val;have G:=f.mono a n;have F:=f.len;have E:=k.hi;have u:=rZ f b (bg _);have D:=k.hc;unfold tz;refine aj (y:=.inl ()) ?_ ?_
 ·refine aj k.wL ?_;grind
 dsimp only;rw[gw (aa:a<o.length),bM];refine bQ.1 ?_;obtain⟨e,x⟩:=cC A;obtain⟨g,v⟩:=cC B;have t:aq o (aO (a:Z))=Y (g:Z):=(by rw[a9 aa,gw aa,v]);rw[t,x];refine bF (P:=λl=>(l=.inl ()/\∀d:X,e<=d->d<g->c.getD d 0≠i)\/∃d:X,e<=d/\d<g/\c.getD d 0=i/\l=.inr (p.getD d 0,())) ?_ ?_
 ·refine bP (g-e) (λj C=>C=(((e+j:X):Z),())/\∀d:X,e<=d->d<e+j->c.getD d 0≠i) ⟨bq,λd r m=>absurd m aa⟩ ?_ ?_
  ·rintro j _ H ⟨rfl,q⟩;dsimp only;rw[bM,aS (aI (aa:((e+j:X):Z)<(g:Z)))];refine bC (gw aa) ?_;by_cases s:c.getD (e+j) 0=i
   ·rw[aS ae];refine bC (gw aa) (bu.2 ?_);grind
   rw[aP ae,a9 aa];grind [cq,bu]
  rintro _ ⟨rfl,q⟩;dsimp only;rw[bM,aP (aD (aa:¬(((e+(g-e):X):Z)<(g:Z))))];grind [bu]
 rintro l (⟨rfl,q⟩|⟨d,r,m,s,rfl⟩)
 ·grind [Qs,ag1,bu]
 refine bu.2 ?_;have z:=((Qs f n).2 ⟨d,aa,aa,bq⟩).1;have:=Um u z;grind
theorem Lw {o:ak7} {n:X} (y:n<=10000) (z:o.length<=1000000):Bf (o,(n:Z),())=Y (open Classical in decide (e8 o n),()):=by
 classical
 unfold Bf;dsimp only;by_cases l:o.length=n
 ·rw[aP ae];refine aj (hP aa) ?_;refine bQ.1 ?_;refine bF (P:=λp=>(p=.inl ()/\e8 o n)\/(p=.inr (br,())/\¬e8 o n)) ?_ ?_
  ·refine bP n (λa t=>t=((a:Z),aC n (λb=>bz ((b:Z)∈o.take a)),())/\(∀c∈o.take a,0<=c/\c<(n:Z))/\(o.take a).Nodup) ?_ ?_ ?_
   ·grind [iF]
   ·rintro a _ x ⟨rfl,f,g⟩;dsimp only;rw[aS (aI (aa:(a:Z)<(n:Z))),eP (aa:a<o.length)];have m:o[a]'(by omega)∈o:=b1 _
    have r:o.take (a+1)=o.take a++[o[a]'(by omega)]:=by simp_all
    have h:∀c,c∈o.take (a+1)↔c∈o.take a\/c=o[a]'(by omega):=λc=>by rw[r,hM,fH]
    have q:(o.take (a+1)).Sublist o:=ano _ _;generalize B:o[a]'(by omega)=b at*
    simp only[aF];by_cases v:b<0
    ·rw[aP (ae:(bz (b<0)==br)=br)];refine bu.2 (.inr ⟨bq,λe=>?_⟩);have:=e.2.1 b m;omega
    rw[aS (ae:(bz (b<0)==br)=bt)];by_cases w:b>=(n:Z)
    ·rw[aP (ae:(bz (b>=(n:Z))==br)=br)];refine bu.2 (.inr ⟨bq,λe=>?_⟩);have:=e.2.1 b m;omega
    rw[aS (ae:(bz (b>=(n:Z))==br)=bt)];obtain⟨i,rfl⟩:=gB (aa:0<=b);rw[jM (by grind [cU]),kz];by_cases j:(i:Z)∈o.take a
    ·rw[aS (aI j)];refine bu.2 (.inr ⟨bq,λe=>?_⟩);have:=ao9 q e.2.2;grind
    rw[aP (aD j)];simp only[aF];rw[lX (by grind [cU]),ha];refine bu.2 ⟨?_,?_,?_⟩
    ·rw[a9 aa];have:aC n (eK (λb=>bz ((b:Z)∈o.take a)) i bt)=aC n (λb=>bz ((b:Z)∈o.take (a+1))):=by
      refine c4 λu A=>?_;by_cases k:u=i
      ·grind [gA,aI]
      rw[gT _ _ k];refine cy.2 ⟨λd=>(h _).2 (.inl d),λd=>((h _).1 d).resolve_right λd=>k aa⟩
     grind
    ·intro c s;rcases(h c).1 s with d|d
     ·grind
     omega
    grind
   rintro _ ⟨rfl,f,g⟩;dsimp only;rw[aP (aD (aa:¬((n:Z)<(n:Z))))];rw[cj aa] at f g;exact bu.2 (.inl ⟨bq,l,f,g⟩)
  grind [bu,aI,aD]
 rw[aS ae,aD (λd=>l d.1)]
theorem Cd (d:gK a b o c p) (g:w.length<=1000000):Bg (((a:Z),(b:Z),o,c,p,()),w,())=Y (open Classical in if fQ a b o c p≠0 then fQ a b o c p else if a≠b then 5 else if e8 w a then 0 else 90,()):=by
 classical
 unfold Bg;refine aj d.wL ?_;dsimp only;have h:=d.hr;by_cases e:fQ a b o c p=0
 ·rw[e,fJ,aI bq,aA (cw bq)];by_cases f:a=b
  ·subst f;rw[fJ,aI bq,aA (cw bq)];refine aj (Lw aa g) ?_;grind
  grind
 grind
theorem aeg (e:a<c.length) (g:c[a]=(b:Z)) (f:(b:Z)∉c.take a):h9 c b=a:=by unfold h9;have d:c=c.take a++(c[a]::c.drop (a+1)):=(by rw[List.getElem_cons_drop,jF]);grind
theorem Sd (B:a<=10000) (C:c.length<=1000000):Fi (c,(a:Z),())=Y (open Classical in if e8 c a then(aC a (λb=>(h9 c b:Z)),bt,()) else([],br,())):=by
 classical
 unfold Fi;dsimp only;by_cases p:c.length=a
 ·rw[aP ae];refine aj (hP aa) (aj (hP aa) ?_);refine bQ.1 ?_;refine bF (P:=λo=>(o=.inl (aC a (λb=>(h9 c b:Z)),())/\e8 c a)\/(o=.inr ([],br,())/\¬e8 c a)) ?_ ?_
  ·refine bP a (λd x=>x=((d:Z),aC a (λb=>if(b:Z)∈c.take d then(h9 c b:Z) else 0),aC a (λb=>bz ((b:Z)∈c.take d)),())/\(∀g∈c.take d,0<=g/\g<(a:Z))/\(c.take d).Nodup) ?_ ?_ ?_
   ·grind [iF]
   ·rintro d _ A ⟨rfl,m,n⟩;dsimp only;rw[aS (aI (ae:(d:Z)<ar c)),eP (aa:d<c.length)];have q:c[d]'(by omega)∈c:=b1 _
    have u:c.take (d+1)=c.take d++[c[d]'(by omega)]:=by simp_all
    have j:∀g,g∈c.take (d+1)↔g∈c.take d\/g=c[d]'(by omega):=λg=>by rw[u,hM,fH]
    have t:(c.take (d+1)).Sublist c:=ano _ _;have s:∀f:X,c[d]'(by omega)=(f:Z)->(f:Z)∉c.take d->h9 c f=d:=λf=>aeg aa
    generalize r:c[d]'(by omega)=b at*
    simp only[aF];by_cases y:b<0
    ·rw[aP (ae:(bz (b<0)==br)=br)];refine bu.2 (.inr ⟨bq,λh=>?_⟩);have:=h.2.1 b q;omega
    rw[aS (ae:(bz (b<0)==br)=bt)];by_cases z:b>=(a:Z)
    ·rw[aP (ae:(bz (b>=(a:Z))==br)=br)];refine bu.2 (.inr ⟨bq,λh=>?_⟩);have:=h.2.1 b q;omega
    rw[aS (ae:(bz (b>=(a:Z))==br)=bt)];obtain⟨f,rfl⟩:=gB (aa:0<=b);rw[jM (by grind [cU]),kz];by_cases l:(f:Z)∈c.take d
    ·simp only[aF];rw[aS (aI l)];refine bu.2 (.inr ⟨bq,λh=>?_⟩);have:=ao9 t h.2.2;grind
    simp only[aF];rw[aP (aD l)];simp only[aF];rw[lX (by grind [cU]),ha,lX (by grind [cU]),ha];refine bu.2 ⟨?_,?_,?_⟩
    ·rw[a9 aa];have:aC a (eK (λb=>bz ((b:Z)∈c.take d)) f bt)=aC a (λb=>bz ((b:Z)∈c.take (d+1))):=by
      refine c4 λk v=>?_;by_cases i:k=f
      ·grind [gA,aI]
      rw[gT _ _ i];refine cy.2 ⟨λe=>(j _).2 (.inl e),λe=>((j _).1 e).resolve_right λe=>i aa⟩
     rw[this];have:aC a (eK (λb=>if(b:Z)∈c.take d then(h9 c b:Z) else 0) f (d:Z))=aC a (λb=>if(b:Z)∈c.take (d+1) then(h9 c b:Z) else 0):=by
      refine c4 λk v=>?_;by_cases i:k=f
      ·subst i;rw[gA,aB ((j _).2 (.inr bq)),s k bq l]
      rw[gT _ _ i];have:(k:Z)∈c.take (d+1)↔(k:Z)∈c.take d:=⟨λe=>((j _).1 e).resolve_right λe=>i aa,λe=>(j _).2 (.inl e)⟩;simp_all
     grind
    ·intro g w;rcases(j g).1 w with e|e
     ·grind
     omega
    grind [List.nodup_append,ak9]
   rintro _ ⟨rfl,m,n⟩;dsimp only;rw[aP (aD (ae:¬((a:Z)<ar c)))];rw[cj aa] at m n|-;have h:e8 c a:=⟨p,m,n⟩;refine bu.2 (.inl ⟨?_,h⟩);have:aC a (λb=>if(b:Z)∈c then(h9 c b:Z) else 0)=aC a (λb=>(h9 c b:Z)):=c4 λb r=>b9 (h.mem r);grind
  rintro o (⟨rfl,e⟩|⟨rfl,e⟩)
  ·simp_all [aB,bu]
  simp_all [bu,aA]
 rw[aS ae,aA (λe=>p e.1)]
def iI (a b:X) (d c e f:ak7):Z:=open Classical in if fQ a b d c e≠0 then fQ a b d c e else if a≠b then 5 else if e8 f a then 0 else 90
theorem CE (d:iI a b p c w o=0):fQ a b p c w=0/\a=b/\e8 o a:=by unfold iI at d;grind
theorem MZ (e:gK b a o c p) (h:w.length<=1000000) (d:iI b a o c p w≠0):qF (((b:Z),(a:Z),o,c,p,()),w,())=Y (bv,iI b a o c p w,()):=by
 classical
 unfold qF;unfold iI at d|-;refine aj e.check ?_;dsimp only;have i:=e.hr;by_cases f:fQ b a o c p=0
 ·rw[aA (cw f)] at d|-;rw[aP ae];by_cases g:b=a
  ·subst g;rw[aA (cw bq)] at d|-;rw[aP ae];refine aj (Sd aa h) ?_;grind
  grind
 grind
def iR (a:X) (E:bp c5) (b:ak7):akW:=ki (kD (kB a (kk E)) b)
theorem JN (b:X) (c:X->X->bD):∀a∈kB b c,a.length<=b:=by intro a d;unfold kB aC at d;grind [alB,fX]
theorem Bx (a:X) (b:X->X->bD):(kB a b).length=a:=cU _ _
theorem Yw (c:X) (E:bp c5):kB c (kk E)=ki (iH c (me E)):=by rw[Pn];have:(λa b=>a !=b&&(me E a b||me E b a))=kk E:=(by grind [PR]);grind
theorem Sb (e:a<=12) {E:bp c5} (b:e8 c a):nc (kB a (kk E)) c=0:=by unfold nc;have d:iO (kB a (kk E))=0:=qx.2 ⟨by grind [Bx],by grind [JI,Yw]⟩;rw[aA (cw d),aA (cw (by rw[Bx];exact b.1)),Bx,aB b]
theorem Vl (e:a<=12) {E:bp c5} (b:e8 c a):Ay ((kB a (kk E),()),c,())=Y ((iR a E c,()),0,()):=by rw[Vk (λf d=>by have:=JN a _ f d;omega) c (λ_ _=>by grind [Bx]) (by rw[b.1];omega),aB (Sb e b)];rfl
def Sz (d:a<=12) {E:bp c5} (e:e8 c a):rS ((kB a (kk E),()),c,())=Y ((iR a E c,()),0,()):=by rw[LD (λf b=>by have:=JN a _ f b;omega) c,aB (Sb d e)];rfl
def sa {E:bp c5} (b:e8 c a):(iR a E c).length=a:=by unfold iR;rw[Yk,yG,b.1]
def yE (a:X) (E:bp c5) (b:ak7):fw (iR a E b):=JI _
def JT (f:a<=12) {E:bp c5} (e:e8 c a):∀b∈iR a E c,b.length<4611686018427387904:=λb d=>by have:=Yl _ b d;rw[yG,e.1] at this;omega
def Sx (d:kJ a o c p) (i:gK a a o c p) (e:fQ a a o c p=0) (u:e8 w a):E7 (((a:Z),(a:Z),o,c,p,()),w,())=Y ((iR a (fE (cZ o c p a)) w,()),()):=by have b:=(jI.1 e).1;have l:=(jI.1 e).2;have k:=rZ b a (bg _);have m:=rY b;have v:=d.el;have t:=d.uc;have n:=pK b i.hw;have q:=pK b (Bs l);unfold E7;refine aj (Lv d i e) ?_;have j:=yT k;have h:=yS m;have s:=L0 (rows:=a) (cX:=a) (E:=fE (cZ o c p a)) aa aa aa (λg f=>n g (h4.1 f).1);have r:=Ir j h (λg f=>q g (h4.1 f).1);have:=Sw s r;rw[Jm j h] at this;refine aj this ?_;exact aj (Sz (dk t ab) u) rfl
def U3 (f:kJ a o c p) (r:gK a a o c p) (h:fQ a a o c p=0):Aw (sf a a (fE (cZ o c p a)),())=Y ((kB a (kk (fE (cZ o c p a))),()),0,()):=by have b:=(jI.1 h).1;have k:=(jI.1 h).2;have j:=rZ b a (bg _);have l:=rY b;have t:=f.el;have u:=f.uc;have m:=pK b r.hw;have n:=pK b (Bs k);have i:=yT j;have g:=yS l;have s:=L0 (rows:=a) (cX:=a) (E:=fE (cZ o c p a)) aa aa aa (λe d=>m e (h4.1 d).1);have q:=Ir i g (λe d=>n e (h4.1 d).1);have:=U0 s q;rw[Jm i g] at this;exact this
def iP:e0:=(br,((br,([],())),((0:Z),())))
def Bl:iP=aw (Y 0):=by rw[g5];rfl
def KQ:a6 0=Y 0:=by decide
theorem Ga {j:Type}:∀(i:bp (Z×j)) (c:Z) (d:j) (b:Z),im (lj i c d) b=if b=c then Y d else im i b
 |[],c,d,b=>by
  show(if c=b then Y d else bv)=_;by_cases e:b=c
  ·rw[aB e,aB e.symm]
  rw[aA e,aA (λf=>e f.symm)];rfl
 |(a,u)::r,c,d,b=>by
  unfold lj;by_cases g:c<a
  ·rw[aB g];show(if c=b then Y d else im ((a,u)::r) b)=_;grind
  rw[aA g];by_cases h:c=a
  ·rw[aB h];show(if c=b then Y d else im r b)=_;by_cases e:b=c
   ·rw[aB e,aB e.symm]
   rw[aA e,aA (λf=>e f.symm)];show _=(if a=b then Y u else im r b);grind
  rw[aA h];show(if a=b then Y u else im (lj r c d) b)=_;rw[Ga r c d b];show _=if b=c then Y d else(if a=b then Y u else im r b)
  grind
abbrev oH:=bA (bp (Z×e0)×X)
variable{z:bp oH}
def o3 (a b:Z):Z:=if b>a then b else a
def n9 (a b:Z):Z:=if b<a then b else a
def hF (E:bp c5) (a:ak7) (b c:X):ak1:=a6 (nm E (o3 (a.getD b 0) (a.getD c 0)) (n9 (a.getD b 0) (a.getD c 0)))
theorem XF (E:bp c5) (a:ak7) (b c:X):hF E a b c=hF E a c b:=by grind [o3,n9,hF]
structure lz (n:X) (o:ak7) (D:bp c5) (M:bp oH):Prop where
 len:M.length=n
 get:∀p,p<n->∃l c,M[p]?=Y (Y (l,c))/\∀q,q<n->p<=q->(im l (q:Z)).getD iP=aw (hF D o p q)
def lz.nil:lz a c [] (aC a λ_=>Y ([],0)) where
 len:=cU _ _
 get:=λd b=>⟨[],0,h0 b,λe _ _=>by
  show iP=aw (a6 0);rw[KQ,Bl]⟩
theorem GI (d:e8 c b) (e:a<b):c.getD a 0=(og c a:Z)/\og c a<b:=by have f:a<c.length:=(by rw[d.1];exact e);have:=d.2.1 c[a] (cK f);grind [jL,og]
theorem aeh (d:e8 c b) {e:X} (j:e<b) (i:a<b) (n:a<=e) (f:h<b) (g:t<b) (o:h<=t):(n9 (h9 c e:Z) (h9 c a:Z)=(h:Z)/\o3 (h9 c e:Z) (h9 c a:Z)=(t:Z))↔(e:Z)=o3 (c.getD h 0) (c.getD t 0)/\(a:Z)=n9 (c.getD h 0) (c.getD t 0):=by
 obtain⟨k,p⟩:=GI d f;obtain⟨aE,r⟩:=GI d g;obtain⟨u,v⟩:=d.pos j;obtain⟨l,m⟩:=d.pos i;have q:=d.Sh f;have s:=d.Sh g;rw[k,aE];constructor
 ·grind [ax,o3,n9,h9]
 grind [og,n9,o3,ax]
theorem lz.skip {b:bp c5} (d:lz a c b z) (k:(b++[N]).Pairwise hK) (o:N.1<N.2.1):lz a c (b++[N]) z where
 len:=d.len
 get:=λm h=>by obtain⟨l,e,f,g⟩:=d.get m h;refine⟨l,e,f,λn j i=>?_⟩;rw[g n j i];unfold hF;rw[Un k,aA];grind [n9,o3]
theorem lz.add (y:e8 c t) {g:bp c5} (i:lz t c g z) {j:X} (B:(g++[((b:Z),(a:Z),d,())]).Pairwise hK) (A:b<t) (u:a<t) (v:a<=b) (H:(h:Z)=n9 (h9 c b:Z) (h9 c a:Z)) (G:(j:Z)=o3 (h9 c b:Z) (h9 c a:Z)) {n:bp (Z×e0)} {C D:X} (w:z[h]?=Y (Y (n,C))):lz t c (g++[((b:Z),(a:Z),d,())]) (z.set h (Y (lj n (j:Z) (aw (a6 d)),D))) where
 len:=by rw[anf,i.len]
 get:=λf k=>by
  have x:h<z.length:=(ih.1 w).1;have E:∀e,e<t->f<=e->aw (hF (g++[((b:Z),(a:Z),d,())]) c f e)=if h=f/\j=e then aw (a6 d) else aw (hF g c f e):=by intro e m l;have:=aeh y A u v k m l;unfold hF;rw[Un B];grind
  by_cases p:f=h
  ·subst p;refine⟨_,_,List.getElem?_set_self x,λe m l=>?_⟩;rw[Ga,E e m l];by_cases q:j=e
   ·grind
   rw[aA aa,aA (λi=>q i.2)];obtain⟨F,o,r,s⟩:=i.get f k;grind
  obtain⟨F,o,r,s⟩:=i.get f k;grind
theorem Ss (i:gK a a p o w) (g:fQ a a p o w=0) (e:e8 c a) (m:b<a) (n:h<a):vJ (((a:Z),(a:Z),p,o,w,()),c,(b:Z),(h:Z),())=Y (aw (hF (cZ p o w a) c b h),()):=by obtain⟨r,s⟩:=GI e m;obtain⟨aE,t⟩:=GI e n;have q:=e.1;have j:=pK (jI.1 g).1 i.hw;unfold vJ;refine aj (gw aa) (aj (gw aa) ?_);obtain⟨d,k,l⟩:∃d:X,n9 (c.getD b 0) (c.getD h 0)=(d:Z)/\d<a:=(by grind [n9]);have f:=St i g (o3 (c.getD b 0) (c.getD h 0)) l;rw[<-k] at f;refine aj f ?_;dsimp only;refine aj (jN (ag0 j _ _)) rfl
theorem HF (x:kJ a p o c) (n:gK a a p o c) (z:fQ a a p o c=0) (q:e8 w a):∃d,lz a w (cZ p o c a) d/\qF (((a:Z),(a:Z),p,o,c,()),w,())=Y (Y ((a:Z),(iR a (fE (cZ p o c a)) w,()),d,()),0,()):=by
 have Q:=x.uc;have h:=(jI.1 z).1;have ap:=rZ h a (bg _);have a0:=rY h;have ce:=q.1;have a3:=pK h n.hw;suffices D:ah (qF (((a:Z),(a:Z),p,o,c,()),w,())) λf=>∃d,lz a w (cZ p o c a) d/\f=(Y ((a:Z),(iR a (fE (cZ p o c a)) w,()),d,()),0,()) by obtain⟨f,am,d,an,rfl⟩:=D;grind
 unfold qF;refine bC n.check ?_;dsimp only;rw[aP ae,aP ae];refine bC (Sd aa aa) ?_;rw[b9 q];dsimp only;rw[Bool.not_true,bR];refine bC (U8 x n z) (bC (U3 x n z) (bC (Vl (cu Q ab) q) ?_));dsimp only;generalize av:iR a (fE (cZ p o c a)) w=l;refine bC (hP aa) ?_;generalize O:(((a:Z),(a:Z),p,o,c,()):dh)=J;refine bF (P:=λf=>f=(J,((a:Z),(l,()),aC a (λ_=>(Y ([],0):oH)),()),())) ?_ ?_
 ·refine bP a (λk r=>r=((k:Z),J,((a:Z),(l,()),aC a (λj=>if j<k then(Y ([],0):oH) else bv),()),())) ?_ ?_ ?_
  ·rw[iF];rfl
  ·rintro k _ M rfl;dsimp only;rw[aS (aI (ae:(k:Z)<ar (bJ a (bv:oH)))),a9 aa];refine bC (eV (by grind [cU])) ?_;rw[gV M,ha];refine bu.2 ?_;have:aC a (eK (λj=>if j<k then(Y ([],0):oH) else bv) k (Y ([],0)))=aC a (λj=>if j<k+1 then(Y ([],0):oH) else bv):=by
    refine c4 λj B=>?_;by_cases v:j=k
    ·simp_all [gA,aB]
    rw[gT _ _ v];grind
   grind
  rintro _ rfl;dsimp only;rw[aP (aD (ae:¬((a:Z)<ar (bJ a (bv:oH)))))];have:aC a (λj=>if j<a then(Y ([],0):oH) else bv)=aC a (λ_=>(Y ([],0):oH)):=c4 λj B=>b9 B;grind [bu]
 rintro _ rfl;dsimp only;refine bF (P:=λf=>∃d,lz a w (cZ p o c a) d/\f=(((a:Z),(l,()),d,()),())) ?_ (by grind [bu]);subst O;refine bP a (λb r=>∃d,lz a w (cZ p o c b) d/\r=((b:Z),((a:Z),(a:Z),p,o,c,()),((a:Z),(l,()),d,()),())) ⟨_,lz.nil,bq⟩ ?_ ?_
 ·rintro b _ t ⟨d,m,rfl⟩;have u:=h.len;obtain⟨e,N⟩:=cC (h.pos b aa);obtain⟨i,G⟩:=cC (h.pos (b+1) aa);have bl:i<=o.length:=(by have:=h.qO (b+1) aa;omega);have bx:e<=i:=(by have:=h.mono b t;omega);have B:=h.val;have a4:=n.hi;dsimp only;rw[aS (aI (aa:(b:Z)<(a:Z))),a9 aa];refine bC (y:=(e:Z)) (by rw[gw aa,N]) ?_;have R:cZ p o c (b+1)=cZ p o c b++jw o c (b:Z) e (i-e):=by
   grind [cZ]
  have T:(cZ p o c (b+1)).Pairwise hK:=rZ h (b+1) aa;refine bF (P:=λf=>∃d,lz a w (cZ p o c (b+1)) d/\f=(((a:Z),(a:Z),p,o,c,()),((a:Z),(l,()),d,()),())) ?_ (by grind [bu]);refine bP (i-e) (λg r=>∃d,lz a w (cZ p o c b++jw o c (b:Z) e g) d/\r=(((e+g:X):Z),((a:Z),(a:Z),p,o,c,()),((a:Z),(l,()),d,()),())) ⟨d,by grind [jw],bq⟩ ?_ ?_
  ·rintro g _ ci ⟨d,m,rfl⟩;dsimp only;refine bC (y:=(i:Z)) (by rw[gw aa,G]) ?_;rw[aS (aI (aa:((e+g:X):Z)<(i:Z)))];have S:=h.rng b (e+g) t aa aa;obtain⟨f,A⟩:=cC S.1;have I:(cZ p o c b++jw o c (b:Z) e g++[((f:Z),(b:Z),c.getD (e+g) 0,())]).Pairwise hK:=by
    refine aqj ?_ T;rw[R,jd];refine aqP (aqQ _) ?_;have:jw o c (b:Z) e g++[((f:Z),(b:Z),c.getD (e+g) 0,())]=jw o c (b:Z) e (g+1):=(by rw[jw,A]);rw[this,Jl,Jl,<-Fy (i-e) (g+1) _ aa];grind
   have L:cZ p o c b++jw o c (b:Z) e (g+1)=cZ p o c b++jw o c (b:Z) e g++[((f:Z),(b:Z),c.getD (e+g) 0,())]:=(by rw[jd,jw,A]);rw[L];refine bF (P:=λad=>∃d,lz a w (cZ p o c b++jw o c (b:Z) e g++[((f:Z),(b:Z),c.getD (e+g) 0,())]) d/\ad=(((a:Z),(a:Z),p,o,c,()),((a:Z),(l,()),d,()),())) ?_ ?_
   ·refine bC (y:=(f:Z)) (by rw[gw aa,A]) ?_;rw[cW];refine alv (λv=>?_) (λv=>?_)
    ·have H:f<a:=aa;refine bC (by rw[eP (by grind [cU]),kz]) (bC (by rw[eP (by grind [cU]),kz]) ?_);obtain⟨s,E,K⟩:∃s:X,(s:Z)=n9 (h9 w f:Z) (h9 w b:Z)/\s<a:=by
      have:=(q.pos H).1;have:=(q.pos t).1;unfold n9;split
      ·grind
      grind
     obtain⟨C,F⟩:∃C:X,(C:Z)=o3 (h9 w f:Z) (h9 w b:Z):=(by unfold o3;grind);change ah ((bm d.length (n9 (h9 w f:Z) (h9 w b:Z))).bind _) _;rw[<-E];refine bC (eV (by rw[m.len];omega)) ?_;refine bC (gw aa) ?_;refine bC (qT (n.hw _ ae)) ?_;dsimp only;obtain⟨V,U,u,_⟩:=m.get s K;refine bC (gh u) ?_;change ah ((BK (Y (V,U)) (o3 (h9 w f:Z) (h9 w b:Z)) _).bind _) _;rw[<-F];refine bC bq ?_;rw[gh u];exact bu.2 ⟨_,m.add q I H t aa E F u,bq⟩
    exact bu.2 ⟨d,m.skip I ae,bq⟩
   rintro _ ⟨d,D,rfl⟩;dsimp only;rw[a9 aa];grind [bu]
  rintro _ ⟨d,m,rfl⟩;dsimp only;refine bC (y:=(i:Z)) (by rw[gw aa,G]) ?_;rw[aP (aD (aa:¬((e+(i-e):X):Z)<(i:Z)))];grind [bu]
 rintro _ ⟨d,m,rfl⟩;dsimp only;rw[aP (aD (aa:¬((a:Z)<(a:Z))))];grind [bu]
def Va (f:a<=5) (e:gK a a o c p) (d:fQ a a o c p=0) (g:e8 w a):∃b,lz a w (cZ o c p a) b/\qF (((a:Z),(a:Z),o,c,p,()),w,())=Y (Y ((a:Z),(iR a (fE (cZ o c p a)) w,()),b,()),0,()):=HF (kJ.BX f d) e d g
theorem Th {E:bp c5} (g:lz a c E z) (p:b<a) (q:h<a):vR (Y ((a:Z),(u,()),z,()),(b:Z),(h:Z),())=Y (aw (hF E c b h),()):=by
 unfold vR;dsimp only;rw[bM];have r:∀d e:X,d<a->e<a->d<=e->((aq z (d:Z)).bind λn=>Y (((hk (α:=e0) n (e:Z)).getD (br,((br,([],())),((0:Z),())))),()))=Y (aw (hF E c d e),()):=(by intro d e k m l;obtain⟨s,o,i,j⟩:=g.get d k;refine aj (fR i) ?_;have:=j e m l;rw[<-this];rfl);by_cases f:(h:Z)<(b:Z)
 ·rw[aB f,aA aa,XF];grind
 grind
theorem Gq (a:cH d≠2047):∃c,a6 d=Y c:=by
 have ax:=Bp d;have g:=yz d;unfold a6;rw[aA a];unfold hR;generalize f:(if d<9223372036854775808 then if cH d=0 then gS d else gS d+4503599627370496 else-(if cH d=0 then gS d else gS d+4503599627370496))=b;have e:aV b.natAbs<=53:=fZ.2 (by
  omega)
 split
 ·grind
 rw[aA aa];grind
def agy (a:X->X->Z) (c d b:X):ak1:=dd (cM (a6 (a b c)) (a6 (a b d)))
def LV (c:X->X->ak1) (d:X->X->Z) (a b:X):ak1:=lr (c b a::(bK a).map (agy d b a))
def WO (b:X->X->ak1) (e:X->X->bD) (d:X->X->Z) (a c:X):Z:=
 if c=a then GY (LV b d a a) 0 else if e a c=bt then gN (LV b d a c) (a6 (GY (LV b d a a) 0)) 0 else 0
def Ku (a:X->X->ak1) (b:X->X->bD):X->X->X->Z
 |0=>λ_ _=>0
 |j+1=>λd c=>if d=j then WO a b (Ku a b j) j c else Ku a b j d c
def wi (b:X->X->ak1) (d:X->X->bD) (a c:X):Z:=Ku b d (a+1) a c
theorem Y7 (a:eH d):E6 (d,())=Y (bz (lK d=0),()):=by unfold E6;have e:lK d=0↔d=0\/d=9223372036854775808:=(by unfold lK cH gS;obtain⟨b,c⟩:=a;omega);grind
def Sm (a:eH d) (b:eH k):Be (d,k,())=Y (aw (cM (a6 d) (a6 k)),()):=by unfold Be;refine aj (jN a) (aj (jN b) ?_);exact aj (kH (fF _) (fF _)) rfl
def Lt {a:ak1} (b:cN x) (c:cN a):yo (aw x,aw a,())=Y (gN x a 0,()):=by unfold yo;exact aj (afe b c) rfl
theorem Gp {k:X} (b:d.natAbs=2*a+1):cR (d*2^k)=d/\hZ (d*2^k)=(k:Z)-65536:=by have c:(d*2^k).natAbs=(2*a+1)*2^k:=(by rw[na,b]);have e:=zv c;unfold cR hZ;grind [ao0,Int.pow_pos]
def Sj (b:d≠0) (a:X):d*2^a≠0:=aqn b (by have:(0:Z)<2^a:=mT ab;omega)
theorem Qz (e:d.natAbs=2*h+1) (o:k+a+65536=(b:Z)) (m:-65536<=k) (n:k+a+aV d.natAbs<=65536):hR (d*2^a) k=Y (d*2^b):=by have l:d≠0:=aa;have f:(d*2^a).natAbs=(2*h+1)*2^a:=(by rw[na,e]);have g:=zv f;have i:aV (d*2^a).natAbs=aV d.natAbs+a:=(by grind [na,s5]);unfold hR;rw[aA (Sj l a),g,i,aA aa];obtain⟨c,j⟩:=gB (aa:0<=k+65536);rw[j];show Y (q1 (d*2^a) (c:Z))=_;rw[ot,kK,<-l3,(aa:a+c=b)]
def Ju {m:Z} {a t k:X} (c:d=m*2^t) (b:m.natAbs=2*a+1) (f:(t:Z)+65536=(k:Z)) (e:t+aV m.natAbs<=65536):iv d=Y (m*2^k):=by unfold iv;rw[c];exact Qz b aa ab aa
def Fv {a:X} (e:d.natAbs=2*a+1) (f:0<d) (c:Z):lS (Y (d*2^b)) c=mJ br d.natAbs ((b:Z)-65536) br c:=by obtain⟨g,h⟩:=Gp (k:=b) e;show ze (d*2^b) c=_;unfold ze;rw[aA (Sj aa b),g,h,aD];have:(0:Z)<d*2^b:=p7 f (mT ab);omega
theorem XS {a:X} (c:d.natAbs=2*a+1) (e:0<d):GY (Y (d*2^b)) 0=SY (SX d.natAbs ((b:Z)-65536)) d.natAbs ((b:Z)-65536) 0:=by obtain⟨f,g⟩:=Gp (k:=b) c;have:(0:Z)<d*2^b:=p7 e (mT ab);show(if d*2^b<0 then(9221120237041090560:Z) else if d*2^b=0 then 0 else LI (d*2^b) 0)=_;rw[aA aa,aA aa];grind [LI]
theorem XR {a b:X} (f:d.natAbs=2*a+1) (g:0<d) (c:O.natAbs=2*b+1) (e:0<O):gN (Y (d*2^h)) (Y (O*2^t)) 0=sn (nL d.natAbs O.natAbs) d.natAbs O.natAbs br ((h:Z)-65536-((t:Z)-65536)) 0:=by obtain⟨i,j⟩:=Gp (k:=h) f;obtain⟨l,m⟩:=Gp (k:=t) c;have n:(0:Z)<d*2^h:=p7 g (mT ab);have o:(0:Z)<O*2^t:=p7 e (mT ab);show(if O*2^t=0 then(9221120237041090560:Z) else if d*2^h=0 then 0 else wK (d*2^h) (O*2^t) 0)=_;rw[aA aa,aA aa];grind [aD,wK]
def Jv {a t:X} (c:k.natAbs=2*a+1) (g:(if d<9223372036854775808 then if cH d=0 then gS d else gS d+4503599627370496 else-(if cH d=0 then gS d else gS d+4503599627370496))=k*2^t) (f:cH d≠2047) (h:(if cH d=0 then-1074 else cH d-1075)+(t:Z)+65536=(b:Z)) (e:(if cH d=0 then-1074 else cH d-1075)+(t:Z)+aV k.natAbs<=65536):a6 d=Y (k*2^b):=by unfold a6;rw[aA f,g];refine Qz c h ?_ e;have:=Bp d;omega
def f4:lS (iv 4) 0=4616189618054758400:=by rw[Ju (m:=1) (a:=0) (t:=2) (k:=65538) ab ab ab ab,Fv (a:=0) ab ab];decide
def f2:lS (iv 2) 0=4611686018427387904:=by rw[Ju (m:=1) (a:=0) (t:=1) (k:=65537) ab ab ab ab,Fv (a:=0) ab ab];decide
def f5:lS (iv 5) 0=4617315517961601024:=by rw[Ju (m:=5) (a:=2) (t:=0) (k:=65536) ab ab ab ab,Fv (a:=2) ab ab];decide
def v4:a6 4616189618054758400=Y (1*2^65538):=Jv (a:=0) (t:=52) ab ab ab ab ab
def fL:a6 4611686018427387904=Y (1*2^65537):=Jv (a:=0) (t:=52) ab ab ab ab ab
def v1:a6 4607182418800017408=Y (1*2^65536):=Jv (a:=0) (t:=52) ab ab ab ab ab
def aU:GY (Y (1*2^65538)) 0=4611686018427387904:=by rw[XS (a:=0) ab ab];decide+kernel
theorem aE:gN (Y (1*2^65537)) (Y (1*2^65537)) 0=4607182418800017408:=by rw[XR (a:=0) (b:=0) ab ab ab ab];decide
theorem O1:e8 [0,1] 2:=⟨bq,λb a=>by
 grind,ab⟩
def Jt:akW:=[[1],[0]]
theorem UZ (a b:ak7) (c:a.length<4611686018427387904):AU (a,b,())=Y (a==b,()):=C2 a b c
def mW (g f e:X) (h a d:ak7):Prop:=∃c,c<=a.length/\gO g f h (a.take c) (d.take c)/\d.length=a.length/\(∀b,c<=b->b<a.length->0<=a.getD b 0/\a.getD b 0<(e:Z))/\(∀b,c<b->b<a.length->a.getD (b-1) 0<a.getD b 0)
def gO.open (d:gO b a o c p):mW b a 0 o c p:=
 ⟨c.length,bg _,by rw[fD (bg _),fD (Nat.le_of_eq d.val)];exact d,d.val,λg f e=>absurd e aa,λg f e=>absurd e aa⟩
theorem mW.skip (f:mW h b a o c p):mW h b (a+1) o c p:=by obtain⟨m,g,i,j,k,l⟩:=f;exact⟨m,g,i,j,λn d e=>by have:=k n d e;omega,l⟩
def By (b:a<c.length):(c++[d]).getD a 0=c.getD a 0:=by rw[k2,rm b,<-k2]
def JO:(c++[d]).getD c.length 0=d:=by rw[k2,qe (bg _)];simp
theorem mW.add (j:mW h b a o c p) (q:Z):mW h b (a+1) o (c++[(a:Z)]) (p++[q]):=by
 obtain⟨n,k,l,r,i,m⟩:=j;refine⟨n,by simp;omega,?_,by simp;omega,λe f g=>?_,λe f g=>?_⟩
 ·rw[uX k,uX aa];exact l
 ·rw[hq,nr] at g;rcases cY e c.length with d|d
  ·rw[By d];have:=i e f d;omega
  obtain rfl:e=c.length:=aa;rw[JO];omega
 rw[hq,nr] at g;rcases cY e c.length with d|d
 ·rw[By d,By aa];exact m e f d
 obtain rfl:e=c.length:=aa;rw[JO,By aa];exact(i (c.length-1) aa aa).2
def JP (d:a<b):(c.take b).getD a 0=c.getD a 0:=by rw[k2,sK d,<-k2]
def mW.close (s:mW b a b o c p):gO b (a+1) (o++[(c.length:Z)]) c p:=by
 obtain⟨x,m,i,t,u,v⟩:=s;have n:=i.len;have q:=i.last;rw[gu,h5 m] at q;have l:(o++[(c.length:Z)]).getD (a+1) 0=(c.length:Z):=(by rw[<-n];exact JO);have e:∀d,d<=a->(o++[(c.length:Z)]).getD d 0=o.getD d 0:=λd j=>By aa;have r:∀d,d<=a->o.getD d 0<=(x:Z):=λd j=>(by have:=i.qO d j;rw[gu,h5 m] at this;exact this);refine⟨by simp[n],by rw[e 0 aa];exact i.first,λd j=>?_,l,t,λd k j g h=>?_,λd k j g h=>?_⟩
 ·rcases cY d a with f|f
  ·rw[e d aa,e (d+1) aa];exact i.mono d f
  obtain rfl:d=a:=aa;rw[e d aa,l,q];omega
 ·rcases cY d a with f|f
  ·rw[e d aa] at g;rw[e (d+1) aa] at h;have w:=r (d+1) aa;have:=i.rng d k f g h;rw[JP aa] at this;exact this
  obtain rfl:d=a:=aa;rw[e d aa] at g;rw[l] at h;exact u k aa aa
 rcases cY d a with f|f
 ·rw[e d aa] at g;rw[e (d+1) aa] at h;have w:=r (d+1) aa;have:=i.asc d k f g h;rw[JP aa,JP aa] at this;exact this
 obtain rfl:d=a:=aa;rw[e d aa] at g;rw[l] at h;exact v k aa aa
theorem gO.empty (d:X):gO d 0 [0] [] []:=⟨bq,bq,λb a=>absurd a aa,bq,bq,λb c a=>absurd a aa,λb c a=>absurd a aa⟩
structure xe (P:Z->Prop) (rows cX:X) (m:dh):Prop where
 ex:∃st iG nO,m=((rows:Z),(cX:Z),st,iG,nO,())/\gO rows cX st iG nO/\(∀v∈nO,P v)/\iG.length<=cX*rows
abbrev rh:=xe eH
def rh.afZ (g:b<=6) (f:a<=6) (d:gO b a p c o) (e:∀h∈o,eH h) (i:c.length<=a*b):gK b a p c o:=by have j:a*b<=6*6:=mV f g;exact⟨aa,aa,aa,by rw[d.len];omega,by rw[d.val];omega,e⟩
def U2 (z:∀o,eH o->ah (vE (o,d,())) λF=>s F.1) (C:c.length<=9223372036854775807) (D:a<=6) (A:b<=6):ah (tp (c,(a:Z),(b:Z),d,())) λl=>xe s a b l.1:=by
 have M:b*a<=6*6:=Nat.mul_le_mul A D;unfold tp;dsimp only;refine bF (P:=λl=>xe s a b l.2.1) ?_ (by rintro⟨G,H,_⟩ q;exact bu.2 q);refine bP b (λg r=>∃h e f,r=((g:Z),((0:Z),((0:Z),([],([],([],()))))),((a:Z),(b:Z),h,e,f,()),())/\gO a g h e f/\(∀i∈f,s i)/\e.length<=g*a) ?_ ?_ ?_
 ·exact⟨[0],[],[],bq,gO.empty a,ac,ac⟩
 ·rintro g _ B ⟨h,e,f,rfl,u,y,J⟩;have L:g*a+a<=6*6:=by
   have:(g+1)*a<=b*a:=iX _ B;rw[kL,kM] at this;omega
  dsimp only;rw[aS (aI (aa:(g:Z)<(b:Z))),a9 aa];refine bF (P:=λl=>∃e f,l=(((0:Z),((0:Z),([],([],([],()))))),((a:Z),(b:Z),h,e,f,()),())/\mW a g a h e f/\(∀i∈f,s i)/\e.length<=g*a+a) ?_ ?_
  ·refine bP a (λj r=>∃e f,r=((j:Z),((0:Z),((0:Z),([],([],([],()))))),((a:Z),(b:Z),h,e,f,()),())/\mW a g j h e f/\(∀i∈f,s i)/\e.length<=g*a+j) ?_ ?_ ?_
   ·exact⟨e,f,bq,u.open,y,aa⟩
   ·rintro j _ K ⟨e,f,rfl,p,t,I⟩;have N:f.length=e.length:=by
     obtain⟨O,_,_,q,_⟩:=p;exact q
    dsimp only;rw[aS (aI (aa:(j:Z)<(a:Z))),a9 aa];refine bF (P:=λl=>∃e f,l=(((0:Z),((0:Z),([],([],([],()))))),((a:Z),(b:Z),h,e,f,()),())/\mW a g (j+1) h e f/\(∀i∈f,s i)/\e.length<=g*a+(j+1)) ?_ ?_
    ·refine bF (Mu c C _) ?_;rintro⟨E,_⟩ w;dsimp only at w|-;rw[ux ab ab,bM];unfold jq;rw[b9 ab,bM,cW];refine alv (λx=>?_) (λx=>?_)
     ·rw[c9 (by simp;omega),bM];refine bF (z E w) ?_;rintro⟨i,_⟩ v;dsimp only at v|-;rw[c9 (by simp;omega),bM];refine bu.2 ⟨_,_,bq,p.add i,λo n=>?_,by simp;omega⟩;rcases List.mem_append.1 n with n|n
      ·exact t o n
      obtain rfl:=fH.1 n;exact v
     exact bu.2 ⟨_,_,bq,p.skip,t,aa⟩
    rintro _ ⟨e,f,rfl,aE,k,m⟩;exact bu.2 ⟨e,f,bq,aE,k,m⟩
   rintro _ ⟨e,f,rfl,aE,k,m⟩;dsimp only;rw[aP (aD (aa:¬((a:Z)<(a:Z))))];exact bu.2 ⟨e,f,bq,aE,k,m⟩
  rintro _ ⟨e,f,rfl,aE,k,m⟩;dsimp only;rw[c9 (by rw[u.len];simp;omega),bM];refine bu.2 ⟨_,_,_,bq,aE.close,k,by rw[Nat.add_mul,anq];omega⟩
 rintro _ ⟨h,e,f,rfl,aE,k,m⟩;dsimp only;rw[aP (aD (aa:¬((b:Z)<(b:Z))))];exact bu.2 ⟨h,e,f,bq,aE,k,m⟩
def rh.small (h:b<=5) (g:a<=5) (d:gO b a p c o) (e:∀i∈o,eH i) (f:c.length<=a*b):gK b a p c o:=
 rh.afZ (dk h ab) (dk g ab) d e f
def MP (f:∀e,eH e->ah (vE (e,d,())) λk=>s k.1) (h:c.length<=9223372036854775807) (i:b<=5) (g:a<=5):ah (tp (c,(b:Z),(a:Z),d,())) λj=>xe s b a j.1:=
 U2 f h (dk i ab) (dk g ab)
def MQ (g:c.length<=9223372036854775807) (h:b<=5) (f:a<=5) (d:Z):ah (tp (c,(b:Z),(a:Z),d,())) λi=>rh b a i.1:=
 MP (λ_ e=>QX e d) g h f
theorem agZ (e:s 0) {E:bp c5} (d:∀c∈E,s c.2.2.1) (a b:Z):s (nm E a b):=by grind [aqm,decide,nm]
theorem UC (f:s 0) (g:gK b a p o c) (k:∀d∈c,s d) (i:Z) (j:h<a):∃d,s d/\tz (((b:Z),(a:Z),p,o,c,()),i,(h:Z),())=Y (d,()):=by
 by_cases e:fQ b a p o c=0
 ·exact⟨_,agZ f (pK (jI.1 e).1 k) _ _,St g e i j⟩
 refine⟨0,f,?_⟩;unfold tz;refine aj (y:=.inr (0,())) ?_ bq;refine aj g.wL ?_;grind
theorem Vq (l:gK h b o c p) (f:gO h b o c p) (d:t<h) (n:a<b):∃i,A5 (((h:Z),(b:Z),o,c,p,()),(t:Z),(a:Z),())=Y (i,()):=by
 have r:=f.pos a aa;have s:=f.pos (a+1) aa;have B:=f.qO (a+1) aa;have z:=f.mono a n;have x:=f.len;have w:=l.hi;have v:=l.hc;suffices j:ah (A5 (((h:Z),(b:Z),o,c,p,()),(t:Z),(a:Z),())) λm=>True by obtain⟨⟨i,_⟩,j,_⟩:=j;grind
 unfold A5;dsimp only;rw[aD (aa:¬((t:Z)<0)),aD (aa:¬((t:Z)>=(h:Z))),aD (aa:¬((a:Z)<0)),aD (aa:¬((a:Z)>=(b:Z)))];refine bC (y:=.inl ()) rfl ?_;dsimp only;obtain⟨e,q⟩:=cC r;obtain⟨d,k⟩:=cC s;refine bC (y:=(e:Z)) (by rw[gw aa,q]) ?_;refine bF (P:=λm=>True) ?_ ?_
 ·refine bP (d-e) (λg u=>u=(((e+g:X):Z),())) rfl ?_ ?_
  ·rintro g _ A rfl;dsimp only;refine bC (y:=(d:Z)) (by rw[a9 aa,gw aa,k]) ?_;rw[aS (aI (aa:((e+g:X):Z)<(d:Z)))];refine bC (gw aa) ?_;rw[gp,cW];refine alv (λ_=>bu.2 trivial) (λ_=>?_);rw[a9 aa];grind [bu]
  rintro _ rfl;dsimp only;refine bC (y:=(d:Z)) (by rw[a9 aa,gw aa,k]) ?_;rw[aP (aD (aa:¬(((e+(d-e):X):Z)<(d:Z))))];exact bu.2 trivial
 rintro(_|m) _
 ·exact bu.2 trivial
 exact bu.2 trivial
structure UI (P Q:Z->Prop) (agf:Z):Prop where
 z:P 0
 w:∀v,P v->eH v
 q:∀v,P v->Q v
 num:∀x,eH x->ah (vE (x,(qQ agf 3:X),())) λy=>P y.1
 Xf:∀L:eA,L.length<=5->(∀d∈L,∃v,P v/\d=nC (a6 v))->Q (lS (lr (iv 1::L)) 2)
theorem UJ {P:Z->Prop} (r:UI P s d) (bl:c.length<=9223372036854775807) (t:a<=5):ah (AR (c,(a:Z),d,())) λk=>xe s a a k.1:=by
 have cv:a*a<=5*5:=Nat.mul_le_mul t t;unfold AR;refine bC (wq d (n:=3) ab ab) ?_;refine bF (MP r.num bl t t) ?_;rintro⟨o,_⟩ I;dsimp only at I|-;obtain⟨U,T,V,rfl,J,K,a4⟩:=I.ex;have L:=rh.small t t J (λf u=>r.w f (K f u)) a4;have H:=λ(i:Z) (g:X) (p:g<a)=>UC r.z L K i p;have an:=λ(i g:X) (B:i<a) (p:g<a)=>Vq L J B p;generalize(((a:Z),(a:Z),U,T,V,()):dh)=o at*;refine bF (P:=λk=>xe s a a k.2.1) ?_ (by grind [bu]);refine bP a (λg v=>∃j e b,v=((g:Z),((0:Z),((0:Z),([],([],([],()))))),o,((a:Z),(a:Z),j,e,b,()),())/\gO a g j e b/\(∀f∈b,s f)/\e.length<=g*a) ?_ ?_ ?_
 ·grind [gO.empty]
 ·rintro g _ p ⟨j,e,b,rfl,G,am,ci⟩;have co:g*a+a<=5*5:=by
   have:(g+1)*a<=a*a:=iX _ p;grind
  dsimp only;rw[aS (aI (aa:(g:Z)<(a:Z))),a9 aa];refine bF (P:=λk=>∃e b,k=(((0:Z),((0:Z),([],([],([],()))))),o,((a:Z),(a:Z),j,e,b,()),())/\mW a g a j e b/\(∀f∈b,s f)/\e.length<=g*a+a) ?_ ?_
  ·refine bP a (λi v=>∃e b,v=((i:Z),((0:Z),((0:Z),([],([],([],()))))),o,((a:Z),(a:Z),j,e,b,()),())/\mW a g i j e b/\(∀f∈b,s f)/\e.length<=g*a+i) ?_ ?_ ?_
   ·exact⟨e,b,bq,G.open,am,aa⟩
   ·rintro i _ B ⟨e,b,rfl,y,S,ce⟩;have c1:b.length=e.length:=by
     obtain⟨l,_,_,ad,_⟩:=y;exact ad
    dsimp only;rw[aS (aI (aa:(i:Z)<(a:Z))),a9 aa];refine bF (P:=λk=>∃e b,k=(((0:Z),((0:Z),([],([],([],()))))),o,((a:Z),(a:Z),j,e,b,()),())/\mW a g (i+1) j e b/\(∀f∈b,s f)/\e.length<=g*a+(i+1)) ?_ ?_
    ·have M:∀(F:Z),s F->∀f∈b++[F],s f:=λF c2 f u=>by
      grind
     rw[gp,cW];refine alv (λQ=>?_) (λQ=>?_)
     ·refine bC (Cj ab ab) ?_;dsimp only;refine bF (P:=λk=>∃h:eA,k=(((0:Z),((0:Z),([],([],([],()))))),o,((a:Z),(a:Z),j,e,b,()),(iv 1::h).map aw,())/\(∀m∈h,∃f,P f/\m=nC (a6 f))/\h.length<=a) ?_ ?_
      ·refine bP a (λl v=>∃h:eA,v=((l:Z),((0:Z),((0:Z),([],([],([],()))))),o,((a:Z),(a:Z),j,e,b,()),(iv 1::h).map aw,())/\(∀m∈h,∃f,P f/\m=nC (a6 f))/\h.length<=l) ?_ ?_ ?_
       ·simp_all
       ·rintro l _ cs ⟨h,rfl,D,N⟩;dsimp only;rw[aS (aI (aa:(l:Z)<(a:Z))),a9 aa];refine bF (P:=λk=>∃h:eA,k=(((0:Z),((0:Z),([],([],([],()))))),o,((a:Z),(a:Z),j,e,b,()),(iv 1::h).map aw,())/\(∀m∈h,∃f,P f/\m=nC (a6 f))/\h.length<=l+1) ?_ ?_
        ·rw[fJ,<-decide_not,cW];refine alv (λR=>?_) (λR=>?_)
         ·obtain⟨x,av,a0⟩:∃x:X,(if(l:Z)<(i:Z) then(l:Z) else(i:Z))=(x:Z)/\x<a:=by
           grind
          rw[av];obtain⟨f,u,C⟩:=H (if(l:Z)>(i:Z) then(l:Z) else(i:Z)) x a0;refine bC C (bC (jN (r.w f u)) (bC (LB (fF _)) ?_));rw[c9 ae];refine bu.2 ⟨h++[nC (a6 f)],ac,λm a3=>?_,ae⟩;grind
         grind [bu]
        grind [bu]
       rintro _ ⟨h,rfl,D,N⟩;dsimp only;rw[aP (aD (aa:¬((a:Z)<(a:Z))))];grind [bu]
      rintro _ ⟨h,rfl,D,N⟩;dsimp only;rw[c9 ae,bM];have bx:∀m∈iv 1::h,cN m:=λm a3=>(by grind [VJ,fF,tR]);refine bC (SD bx ae) ?_;refine bC (LJ (agk _)) ?_;dsimp only;rw[c9 ae,bM];exact bu.2 ⟨_,_,bq,y.add _,M _ (r.Xf h aa D),ae⟩
     obtain⟨O,ap⟩:=an i g B p;refine bC ap ?_;dsimp only;cases O with
     |true=>
      rw[bI,c9 ae,bM];obtain⟨f,u,C⟩:=H (i:Z) g p;refine bC C ?_;dsimp only;rw[c9 ae,bM];exact bu.2 ⟨_,_,bq,y.add _,M _ (r.q _ u),ae⟩
     |false=>
      rw[bR];exact bu.2 ⟨_,_,bq,y.skip,S,aa⟩
    grind [aE,bu]
   rintro _ ⟨e,b,rfl,aE,A,E⟩;dsimp only;rw[aP (aD (aa:¬((a:Z)<(a:Z))))];grind [bu]
  rintro _ ⟨e,b,rfl,aE,A,E⟩;dsimp only;rw[c9 (by rw[G.len];grind),bM];refine bu.2 ⟨_,_,_,bq,aE.close,A,ae⟩
 rintro _ ⟨j,e,b,rfl,aE,A,E⟩;dsimp only;rw[aP (aD (aa:¬((a:Z)<(a:Z))))];exact bu.2 ⟨j,e,b,bq,aE,A,E⟩
def UK (d:c.length<=9223372036854775807) (e:a<=5) (g:Z):ah (AR (c,(a:Z),g,())) λf=>rh a a f.1:=
 UJ (P:=eH) ⟨⟨ab,ab⟩,λ_ b=>b,λ_ b=>b,λ_ b=>QX b _,λ_ _ _=>wS _ _⟩ d e
theorem Vc (j:c.length<=9223372036854775807) (r:a<=12):ah (AS (c,(a:Z),())) λd=>d.1.Perm ((bK a).map (λf:X=>(f:Z))):=by
 unfold AS;dsimp only;refine bF (P:=λd=>d.1.Perm ((bK a).map (λf:X=>(f:Z)))) ?_ (by grind [bu]);refine bP a (λe p=>∃b,p=(b,(e:Z),())/\b.Perm ((bK e).map (λf:X=>(f:Z)))) ⟨[],bq,anp _⟩ ?_ ?_
 ·rintro e _ q ⟨b,rfl,l⟩;have k:b.length=e:=(by have:=l.length_eq;grind);dsimp only;rw[aS (aI (aa:(e:Z)<(a:Z))),a9 aa];refine bF (Mu c j _) ?_;rintro⟨i,_⟩ o;dsimp only at o|-;rw[ux ab ab,bM];refine bC (wq _ (n:=e+1) aa aa) ?_;have s:=yY (az (i/2^(1:Z).toNat)) (n:=e+1) aa;dsimp only;generalize qQ (az (i/2^(1:Z).toNat)) (e+1)=d at*;refine bC (G6 aa) ?_;dsimp only;rw[c9 ae,bM,c9 ae,bM];have m:((gF (d:Z)).bind λg=>(Y b.length).bind λh=>(he g h b.length).map λ_=>(g,h))=Y (d,b.length):=by
   have:gF (d:Z)=Y d:=(by simp_all [aB,gg,gF]);rw[this];show(he d b.length b.length).map _=_;unfold he;grind
  refine bC m ?_;dsimp only;rw[c9 ae,bM];refine bu.2 ⟨_,bq,?_⟩;rw[alu,amQ,cm];have t:b.take d++b.drop d=b:=amC d b;grind
 rintro _ ⟨b,rfl,k⟩;simp_all [bu,aP,aD]
theorem Vb (d:c.length<=9223372036854775807) {n:X} (e:n<=5):ah (AS (c,(n:Z),())) λa=>a.1.length=n:=
 (Vc d (dk e ab)).mono λa b=>by have:=b.length_eq;grind
theorem BU (a:X):gF (a:Z)=Y a:=by simp_all [aB,gg,gF]
theorem TC (e:b<=a) (f:a<=h):((gF (b:Z)).bind λc=>(gF (a:Z)).bind λd=>(he c d h).map λ_=>(c,d))=Y (b,a):=by simp_all [aB,BU,he]
def agK (e:a*2^h=b*2^t) (g:0<a) (f:0<b):db a+h=db b+t/\aV a+h=aV b+t:=by have c:=b4 db e;have d:=b4 aV e;rw[Mm aa,Mm f] at c;rw[s5 aa,s5 f] at d;exact⟨c,d⟩
theorem QK (a:k*d=O*2^65536) (q:fB O):cM (Y k) (Y d)=Y O:=by
 show hR (cR k*cR d) (dc k+dc d)=Y O;have f:∀g:X,(2:Z)^g≠0:=λg=>(by have:(0:Z)<2^g:=mT ab;omega);by_cases b:k=0
 ·rw[b,oz] at a;rw[b,Gn,oz,(anb.1 a.symm).resolve_right (f _)];rfl
 by_cases c:d=0
 ·rw[c,anc] at a;rw[c,Gn,anc,(anb.1 a.symm).resolve_right (f _)];rfl
 have t:=ug k;have u:=ug d;have aO:=jW b;have s:=jW c;have w:=BW.1 ⟨aa,Q1 b⟩;have x:=BW.1 ⟨aa,Q1 c⟩;have o:cR k*cR d≠0:=aqn aO s;have j:db (cR k*cR d).natAbs=0:=(by refine(BW.2 ?_).2;rw[uO,Nat.mul_mod,w,x]);have ax:cR k*cR d*2^(db k.natAbs+db d.natAbs)=O*2^65536:=by
  rw[<-a,l3]
  conv=>rhs;rw[<-t,<-u]
  rw[kK,kK,Int.mul_left_comm (cR d)]
 have m:dc k=(db k.natAbs:Z)-65536:=(by rw[dc,aA b];rfl);have n:dc d=(db d.natAbs:Z)-65536:=(by rw[dc,aA c];rfl);rw[m,n];generalize db k.natAbs=h at*;generalize db d.natAbs=i at*;generalize cR k*cR d=A at*;have e:=b4 Int.natAbs ax;rw[na,na] at e;have r:0<O.natAbs:=aei e aa;obtain⟨l,y⟩:=agK e aa r;rw[j] at l;have z:aV O.natAbs<=131072:=q;unfold hR;rw[aA o,j,aA aa];obtain⟨v,p⟩:=gB (aa:0<=(h:Z)-65536+((i:Z)-65536)+65536);rw[p,ot];congr 1;have:h+i=v+65536:=aa;rw[this,l3,<-kK] at ax;exact Int.mul_eq_mul_right_iff (f _)|>.1 ax
def oe (a:Z):Z:=if a<9223372036854775808 then if cH a=0 then gS a else gS a+4503599627370496 else-(if cH a=0 then gS a else gS a+4503599627370496)
def pL (a:Z):Z:=if cH a=0 then-1074 else cH a-1075
def Js (a:cH d≠2047):-1074<=pL d/\pL d<=971:=by have:=Bp d;unfold pL;split<;>omega
def QH (a:Z):aV (oe a).natAbs<=53:=fZ.2 (by
 have b:=yz a;have:(2:X)^53=9007199254740992:=ab;rw[this];unfold oe;split<;>split<;>omega)
theorem uh (b:cH d≠2047):a6 d=Y (oe d*2^(pL d+65536).toNat):=by
 have h:=Js b;have g:=QH d;unfold a6;rw[aA b];change hR (oe d) (pL d)=_;generalize oe d=f at*;generalize pL d=c at*;unfold hR;by_cases a:f=0
 ·rw[aB a,a,oz]
 rw[aA a,aA aa];obtain⟨i,e⟩:=gB (aa:0<=c+65536);rw[e,ot,gg]
section
section
variable {A:X->X->ak1} {G:akW} {o:ak7} {n:X}
def Y6 (u:n<=200) (h:e8 o n):Ou (o,())=Y (bt,()):=by
 have l:=h.1;unfold Ou;dsimp only;rw[show ar o=(n:Z) by rw[a7,l]];refine aj (hP aa) ?_;refine bQ.1 ?_;refine bF (P:=λq=>q=.inl ()) ?_ (by rintro _ rfl;exact bu.2 bq);refine bP n (λa r=>r=((a:Z),aC n (λb=>bz ((b:Z)∈o.take a)),())) ?_ ?_ ?_
 ·rw[iF];simp
 ·rintro a _ t rfl;dsimp only;rw[aS (aI (aa:(a:Z)<(n:Z))),eP (aa:a<o.length)];have j:o.take (a+1)=o.take a++[o[a]'(by omega)]:=by rw[ct,bV aa];rfl
  have p:=h.2.1 _ (cK (aa:a<o.length));have i:=ao9 (ano (a+1) o) h.2.2;rw[j,j3] at i;have m:o[a]'(by omega)∉o.take a:=λk=>i.2.2 _ k _ (fH.2 bq) rfl
  have g:∀e,e∈o.take (a+1)↔e∈o.take a\/e=o[a]'(by omega):=λe=>by rw[j,hM,fH]
  clear i j;generalize w:o[a]'(by omega)=b at*
  obtain⟨d,rfl⟩:=gB p.1;simp only[aF];rw[aS (show(bz ((d:Z)<0)==br)=bt by rw[aD aa];rfl),aS (show(bz ((d:Z)>=(n:Z))==br)=bt by rw[aD aa];rfl)];rw[jM (by rw[cU];omega),kz,aP (aD m)];simp only[aF];rw[lX (by rw[cU];omega),ha];refine bu.2 ?_;rw[a9 aa];have:aC n (eK (λb=>bz ((b:Z)∈o.take a)) d bt)=aC n (λb=>bz ((b:Z)∈o.take (a+1))):=by
   refine c4 λs v=>?_;by_cases f:s=d
   ·subst f;rw[gA,aI ((g _).2 (.inr bq))]
   rw[gT _ _ f];exact cy.2 ⟨λc=>(g _).2 (.inl c),λc=>((g _).1 c).resolve_right λc=>f aa⟩
  rw[this]
 rintro _ rfl;dsimp only;rw[aP (aD (aa:¬((n:Z)<(n:Z))))];exact bu.2 bq
end
end
section
section
variable {A:X->X->ak1} {G:akW} {o:ak7} {n:X}
def Bk {n j:X} (b:a<n):(j*n+a)/n=j/\(j*n+a) %n=a:=by
 constructor
 ·rw[qk,ao4 aa,an7 b,nu]
 rw[qk,Nat.mul_add_mod,Nat.mod_eq_of_lt b]
def Ds {n:X} (c:a<n) (d:b<n):a*n+b<n*n:=by have:(a+1)*n<=n*n:=iX _ c;rw[kL,kM] at this;omega
def q3 {n:X} (a:n<=5):n*n<=25:=mV a a
def Ms {n:X} (f:n<=5) (e:a<n) (d:b<n):az (az ((a:Z)*(n:Z))+(b:Z))=((a*n+b:X):Z):=by have h:=Ds e d;have i:=q3 f;have c:(a:Z)*(n:Z)=((a*n:X):Z):=(by rw[uP]);rw[c];generalize a*n=g at*;generalize n*n=j at*;rw[cF (x:=(g:Z)) aa aa,cF aa aa];omega
def Uq {n:X} (b:n<=5):az ((n:Z)*(n:Z))=((n*n:X):Z):=by have c:=q3 b;have a:(n:Z)*(n:Z)=((n*n:X):Z):=(by rw[uP]);rw[a];generalize n*n=d at*;rw[cF aa aa]
end
end
section
section
variable {A:X->X->ak1} {G:akW} {o:ak7} {n:X}
def Sy (a:n<=5):Bd ((n:Z),(n:Z),())=Y (((n:Z),(n:Z),aC (n*n) (λ_=>iP),()),()):=by have b:=q3 a;unfold Bd;dsimp only;rw[Uq a];refine aj (hP aa) ?_;rw[iF];rfl
def nN (b:X->e0) (c a:X):e0:=if a<c then b a else iP
theorem Ug (a:X->e0) {N p:X}:(aC N (nN a p)).set p (a p)=aC N (nN a (p+1)):=by
 rw[ha];refine c4 λc _=>?_;by_cases b:c=p
 ·simp_all [aB,gA,nN]
 rw[gT _ _ b];unfold nN;grind
end
end
section
def U6 (a b:ak7) (c:a.length<4611686018427387904):IY (a,b,())=Y (a==b,()):=C2 a b c
def Tl (a:cN x):yg (aw x,aw x,())=Y (bt,()):=by
 unfold yg;refine aj (nf a) (aj (nf a) ?_);dsimp only;refine aj (y:=(bt,())) ?_ bq;unfold IX;dsimp only;rw[aS ac,aS ac];refine aj (y:=(bt,())) ?_ bq;unfold IW;dsimp only;rw[aS ac];refine aj (U6 _ _ ?_) ?_
 ·cases x with
  |none=>exact jG (Nat.zero_lt_succ 10) ab
  |some b=>
   have c:fB b:=a b bq;have:=OR 4096 (jZ c);rw[g5];show(aY (cR b)).2.1.length<_;omega
 dsimp only;rw[alC]
def kG (A:X->X->ak1) (n:X):bp e0:=aC (n*n) λa=>aw (A (a %n) (a/n))
section
variable {n:X} {st C D o:ak7}
def Vg (i:n<=5) (r:gK n n st C D) (q:fQ n n st C D=0) (s:e8 o n):vq (((n:Z),(n:Z),st,C,D,()),o,())=Y (((n:Z),(n:Z),kG (hF (cZ st C D n) o) n,()),0,()):=by
 obtain⟨t,m,p⟩:=Va i r q s;have v:=q3 i;unfold vq;refine aj p ?_;dsimp only;rw[aP af];refine aj bq ?_;dsimp only;rw[aP (aD (aa:¬(n:Z)>64))];refine aj bq (aj bq (aj bq ?_));generalize cZ st C D n=E at*;generalize iR n (fE E) o=G at*;refine bQ.1 ?_;dsimp only;generalize w:(((0:Z),(0:Z),[],()):sV)=d;refine bF (P:=λe=>e=(d,((n:Z),(n:Z),kG (hF E o) n,()),())) ?_ (by rintro _ rfl;exact bu.2 bq);refine bP n (λa f=>f=((a:Z),d,((n:Z),(n:Z),aC (a*n) (λb=>aw (hF E o (b %n) (b/n))),()),())) ?_ ?_ ?_
 ·rw[am8];rfl
 ·rintro a _ h rfl;dsimp only;rw[aS (aI (aa:(a:Z)<(n:Z))),a9 aa];have u:a*n+n<=n*n:=by
   have:(a+1)*n<=n*n:=iX _ h;rw[kL,kM] at this;omega
  refine bC bq ?_;refine bF (P:=λe=>e=(d,((n:Z),(n:Z),aC (a*n+n) (λb=>aw (hF E o (b %n) (b/n))),()),())) ?_ (by rintro _ rfl;exact bu.2 (by rw[kL,kM]));refine bP n (λc f=>f=((c:Z),d,((n:Z),(n:Z),aC (a*n+c) (λb=>aw (hF E o (b %n) (b/n))),()),())) rfl ?_ ?_
  ·rintro c _ g rfl;dsimp only;rw[aS (aI (aa:(c:Z)<(n:Z))),a9 aa];refine bC (Th m g h) ?_;dsimp only;refine bC (Fl (fF _)) ?_;dsimp only;rw[c9 (by rw[cU];simp;omega),bM];refine bu.2 ?_;obtain⟨k,l⟩:=Bk (n:=n) (j:=a) g;rw[<-aoc,r0 (a*n+c),k,l]
  rintro _ rfl;dsimp only;rw[aP (aD (aa:¬((n:Z)<(n:Z))))];exact bu.2 bq
 rintro _ rfl;dsimp only;rw[aP (aD (aa:¬((n:Z)<(n:Z))))];exact bu.2 bq
def Vf (d:gK b a st C D) (e:o.length<=1000000) (c:iI b a st C D o≠0):vq (((b:Z),(a:Z),st,C,D,()),o,())=Y (((0:Z),(0:Z),[],()),iI b a st C D o,()):=by unfold vq;refine aj (MZ d e c) ?_;dsimp only;rw[fJ,aD c];rfl
def aeF (g:n<=5) (q:gK n n st C D) (l:fQ n n st C D=0) (h:e8 o n):vL (((n:Z),(n:Z),st,C,D,()),o,())=Y (((n:Z),(n:Z),kG (hF (cZ st C D n) o) n,()),0,()):=by
 classical
 have x:=q3 g;have w:=h.1;have t:=λc b (d:c<n) (e:b<n)=>Ss q l h d e;unfold vL;refine aj (Cd q aa) ?_;have u:(if fQ n n st C D≠0 then fQ n n st C D else if n≠n then 5 else if e8 o n then 0 else 90)=0:=(by rw[ck (cw l),ck (cw bq),b9 h]);rw[u];dsimp only;rw[aP af,aP (aD (aa:¬(n:Z)>64))];refine aj (Sy g) ?_;dsimp only;generalize cZ st C D n=E at*;refine bQ.1 ?_;generalize y:(((0:Z),(0:Z),[],()):sV)=f;refine bF (P:=λi=>i=(f,((n:Z),(n:Z),kG (hF E o) n,()),())) ?_ (by rintro _ rfl;exact bu.2 bq);refine bP n (λb k=>k=((b:Z),f,((n:Z),(n:Z),aC (n*n) (nN (λa=>aw (hF E o (a %n) (a/n))) (b*n)),()),())) ?_ ?_ ?_
 ·rw[am8];rfl
 ·rintro b _ e rfl;dsimp only;rw[aS (aI (aa:(b:Z)<(n:Z))),a9 aa];refine bF (P:=λi=>i=(f,((n:Z),(n:Z),aC (n*n) (nN (λa=>aw (hF E o (a %n) (a/n))) (b*n+n)),()),())) ?_ (by rintro _ rfl;exact bu.2 (by rw[Nat.add_mul,anq]));refine bP n (λc k=>k=((c:Z),f,((n:Z),(n:Z),aC (n*n) (nN (λa=>aw (hF E o (a %n) (a/n))) (b*n+c)),()),())) rfl ?_ ?_
  ·rintro c _ d rfl;dsimp only;rw[aS (aI (aa:(c:Z)<(n:Z))),a9 aa];refine bC (t c b d e) ?_;dsimp only;have m:=Ds e d;rw[Ms g e d];refine bC (eV (by rw[cU];exact m)) ?_;rw[gV m];refine bu.2 ?_;have:=Ug (λa=>aw (hF E o (a %n) (a/n))) (N:=n*n) (p:=b*n+c);obtain⟨r,s⟩:=Bk (n:=n) (j:=b) d;rw[r,s] at this;rw[<-aoc,<-this]
  rintro _ rfl;dsimp only;rw[aP (aD (aa:¬((n:Z)<(n:Z))))];exact bu.2 bq
 rintro _ rfl;dsimp only;rw[aP (aD (aa:¬((n:Z)<(n:Z))))];refine bu.2 ?_;have:aC (n*n) (nN (λa=>aw (hF E o (a %n) (a/n))) (n*n))=kG (hF E o) n:=c4 λa v=>b9 v;rw[this]
def aeE (d:gK b a st C D) (e:o.length<=1000000) (c:iI b a st C D o≠0):vL (((b:Z),(a:Z),st,C,D,()),o,())=Y (((0:Z),(0:Z),[],()),iI b a st C D o,()):=by unfold vL;refine aj (Cd d e) ?_;dsimp only;change(bif iI b a st C D o !=0 then _ else _)=_;rw[fJ,aD c];rfl
end
section
variable {A B:X->X->ak1} {G:akW} {o:ak7} {n:X}
def Ob (a b:Z):fo a b>0↔b<a:=by
 unfold fo;split
 ·omega
 split<;>omega
def WI (a b:Z):fo a b<0↔a<b:=by
 unfold fo;split
 ·omega
 split<;>omega
def Y3:iv 0=Y 0:=rfl
end
end
section
theorem aeB {st A B:ak7} (e:gK b a st A B) {o:ak7} (f:o.length<=1000000) (d:iI b a st A B o≠0) (c:iu):vK (((b:Z),(a:Z),st,A,B,()),o,c,())=Y (iI b a st A B o,()):=by simp_all [fJ,aD,aj,Cd,iI,vK]
section
variable {n:X} {st A B o:ak7}
end
end
def Ls (a b:X):(2:Z)^(a+b)=2^a*2^b:=l3 2 a b
def ja (a:X) (b:Z):Prop:=∃c,b=c*2^a
theorem ja.zero (a:X):ja a 0:=⟨0,by rw[oz]⟩
theorem ja.add (c:ja a d) (b:ja a k):ja a (d+k):=by obtain⟨e,rfl⟩:=c;obtain⟨f,rfl⟩:=b;exact⟨e+f,by rw[anm]⟩
def ja.neg (b:ja a d):ja a (-d):=by obtain⟨c,rfl⟩:=b;exact⟨-c,by rw[Int.neg_mul]⟩
theorem ja.mono (e:ja b d) (c:a<=b):ja a d:=by obtain⟨g,rfl⟩:=e;obtain⟨f,rfl⟩:=Nat.exists_eq_add_of_le c;exact⟨g*2^f,by rw[amY,Ls,kK]⟩
def ja.shl (a:X) (b:Z):ja a (b*2^a):=⟨b,bq⟩
section
def Yc {B:X} (c:B=65536) (b:cH k≠2047) (a:a6 k=Y d):ja (B-1074) d:=by rw[uh b] at a;cases a;have e:=Js b;exact(ja.shl _ _).mono aa
section
variable {A:X->X->ak1} {G:akW} {o:ak7} {n J:X}
variable {B b:X}
end
end
section
def bf (A e k c:X) (b:ak1):Prop:=∃a,b=Y a/\ja (A-e) a/\a.natAbs<=c*2^(A+k)
section
variable {A e k c B D C:X} {a b:ak1}
theorem bf.rng (h:A=65536) (j:k<=60000) (i:c<1048576) (a:d.natAbs<=c*2^(A+k)):fB d:=by have f:=lC a;have b:aV c<=20:=fZ.2 aa;have e:aV (2^(A+k))<=A+k+1:=fZ.2 (Ll _ _ aa);have g:=xM b e;grind [fB]
theorem bf.mono (b:bf A e k c a) (i:e<=B) (j:k<=D) (g:c<=C):bf A B D C a:=by obtain⟨h,rfl,d,f⟩:=b;exact⟨h,bq,d.mono aa,dk f (mV g (R7 _ _ aa))⟩
theorem bf.zero:bf A e k c (Y 0):=⟨0,bq,ja.zero _,dj _⟩
def bf.neg (b:bf A e k c a):bf A e k c (dd a):=by obtain⟨f,rfl,d,g⟩:=b;exact⟨-f,bq,d.neg,aa⟩
theorem bf.add (m:A=65536) (o:k<=60000) (j:bf A e k c a) (h:bf A e k C b) (n:c+C<1048576):bf A e k (c+C) (cQ a b)/\cQ a b=Y (a.getD 0+b.getD 0):=by obtain⟨d,rfl,l,q⟩:=j;obtain⟨f,rfl,i,p⟩:=h;have g:(d+f).natAbs<=(c+C)*2^(A+k):=ae;have e:cQ (Y d) (Y f)=Y (d+f):=(by show oS (d+f)=_;unfold oS;rw[aB (bf.rng m o n g)]);exact⟨⟨_,e,l.add i,g⟩,e⟩
theorem bf.mul (q:A=65536) (o:bf A e k c a) (m:bf A B D C b) (v:e+B<=60000) (s:k+D<=60000) (r:c*C<1048576):bf A (e+B) (k+D) (c*C) (cM a b)/\∃d f l,a=Y d/\b=Y f/\cM a b=Y l/\l*2^A=d*f:=by obtain⟨d,rfl,⟨g,t⟩,p⟩:=o;obtain⟨f,rfl,⟨h,u⟩,n⟩:=m;have ax:g*h*2^(A-(e+B))*2^A=d*f:=(by rw[t,u,kK (g*h),<-Ls,(aa:A-(e+B)+A=(A-e)+(A-B)),Ls];grind);have i:(g*h*2^(A-(e+B))).natAbs<=c*C*2^(A+(k+D)):=(by refine Nat.le_of_mul_le_mul_right (c:=2^A) ?_ (j4 A);rw[<-na,ax,uO];refine dk (mV p n) (Nat.le_of_eq ?_);grind);have j:cM (Y d) (Y f)=Y (g*h*2^(A-(e+B))):=(by refine QK ?_ (bf.rng q s r i);grind);exact⟨⟨_,j,ja.shl _ _,i⟩,d,f,_,bq,bq,j,ax⟩
def bf.kh (c:A=65536) (a:cH d≠2047):bf A 1074 1024 1 (a6 d):=by obtain⟨f,b⟩:=Gq a;refine⟨f,b,Yc c a b,?_⟩;rw[uh a] at b;obtain rfl:=gy b;have g:=Js a;have e:(oe d).natAbs<2^53:=fZ.1 (QH d);rw[na,kM];refine dk (iX _ (Nat.le_of_lt e)) ?_;rw[<-k3];exact R7 _ _ aa
def bf.val (h:bf A e k c a):a=Y (a.getD 0):=by obtain⟨b,rfl,_⟩:=h;rfl
end
end
section
def iA (a c b:Z):ak1:=cM (cM (a6 a) (a6 c)) (a6 b)
section
variable {A c:X}
def bf.iA (a:A=65536) {b d c:Z} (e:cH b≠2047) (g:cH d≠2047) (f:cH c≠2047):bf A 3222 3072 1 (iA b d c):=
 (bf.mul a (bf.mul a (bf.kh a e) (bf.kh a g) ab ab ab).1 (bf.kh a f) ab ab ab).1
def bf.sub (g:A=65536) {a:ak1} (d:bf A 3222 3072 c x) (b:bf A 3222 3072 1 a) (h:c+1<1048576):bf A 3222 3072 (c+1) (cQ x (dd a))/\cQ x (dd a)=Y (x.getD 0-a.getD 0):=by obtain⟨e,f⟩:=bf.add g ab d b.neg h;refine⟨e,f.trans ?_⟩;obtain⟨i,rfl,_⟩:=b;rfl
def bf.agh (a:A=65536) {f b d e:ak1} (g:bf A 3222 3072 c f) (h:bf A 3222 3072 1 x) (i:bf A 3222 3072 1 b) (j:bf A 3222 3072 1 d) (k:bf A 3222 3072 1 e) (E:c+4<1048576):cQ (cQ (cQ (cQ f (dd x)) (dd b)) (dd d)) (dd e)=cQ f (dd (cQ (cQ (cQ x b) d) e))/\bf A 3222 3072 (c+4) (cQ f (dd (cQ (cQ (cQ x b) d) e))):=by obtain⟨m,p⟩:=bf.sub a g h aa;obtain⟨n,q⟩:=bf.sub a m i aa;obtain⟨o,r⟩:=bf.sub a n j aa;obtain⟨D,s⟩:=bf.sub a o k aa;obtain⟨t,y⟩:=bf.add a ab h i ab;obtain⟨u,z⟩:=bf.add a ab t j ab;obtain⟨v,B⟩:=bf.add a ab u k ab;obtain⟨w,C⟩:=bf.add a ab g v.neg aa;refine⟨?_,w⟩;rw[s,C,r,q,p,B,z,y];obtain⟨l,rfl,_⟩:=g;show Y (l-x.getD 0-b.getD 0-d.getD 0-e.getD 0)=Y (l+-(x.getD 0+b.getD 0+d.getD 0+e.getD 0));congr 1;omega
end
structure aZ where
 rows:ak6
 full:X
 s:X->X->ak1
def aZ.bn (c:aZ) (a b:X):Z:=lS (c.s a b) 0
def aZ.av (c:aZ) (a b:X):Z:=((a6 (c.bn a b)).getD 0).natAbs
def aZ.fin (a:aZ) (c:X):Prop:=∀b∈a.rows,cH (a.bn b c)≠2047
instance(b:aZ) (a:X):alP (b.fin a):=aqo ..
def fa (b:X->Z) (c:X):ak6->Z×ak2->Z×ak2
 |[],a=>a
 |i::d,a=>fa b c d (if i=c then a else if a.2=bv\/a.1<b i then(b i,Y i) else a)
def aZ.fj (b:aZ) (a:X):Z×ak2:=fa (λc=>b.av c a) a b.rows (0,bv)
def aZ.gR (a:aZ):ak6->bA ak6
 |[]=>Y []
 |p::c=>if¬a.fin p then bv else
  if(a.fj p).1=0\/41*(a.fj p).1<=64*a.av p p then Y [p] else
  match(a.fj p).2 with
  |none=>Y [p]
  |some b=>if b∉a.rows.take a.full then a.gR c else if¬a.fin b then bv else
   if 41*((a.fj p).1*(a.fj p).1)<=64*(a.av p p*(a.fj b).1) then Y [p] else
   if 41*(a.fj b).1<=64*a.av b b then Y [b] else Y [p,b]
def aZ.choose (a:aZ):bA ak6:=a.gR (a.rows.take a.full)
structure aN where
 aQ:ak6
 d:ak7
 rows:ak6
 l:bp (X->Z)
def jT (a:ak7):ak1:=cQ (cM (a6 (a.getD 0 0)) (a6 (a.getD 2 0))) (dd (cM (a6 (a.getD 1 0)) (a6 (a.getD 1 0))))
def aZ.gW (a:aZ):ak6->ak7
 |[p]=>[a.bn p p]
 |[p,r]=>[a.bn p p,a.bn r p,a.bn r r]
 |_=>[]
def aZ.lc (a:aZ):ak6->bp (X->Z)
 |[p]=>[λb=>if lK (a.bn p p)=0 then 0 else gN (a.s b p) (a6 (a.bn p p)) 0]
 |[p,r]=>[λb=>gN (cQ (cM (a.s b p) (a6 (a.bn r r))) (dd (cM (a.s b r) (a6 (a.bn r p))))) (jT (a.gW [p,r])) 0,λb=>gN (cQ (cM (a.s b r) (a6 (a.bn p p))) (dd (cM (a.s b p) (a6 (a.bn r p))))) (jT (a.gW [p,r])) 0]
 |_=>[]
def n4 (e:ak7) (f:bp (X->Z)) (b d:X):ak1:=match e,f with
 |[d0],[a]=>iA (a b) d0 (a d)
 |[d0,d1,d2],[a,c]=>cQ (cQ (cQ (iA (a b) d0 (a d)) (iA (a b) d1 (c d))) (iA (c b) d1 (a d))) (iA (c b) d2 (c d))
 |_,_=>Y 0
def aZ.elim (a:aZ) (c:ak6):aZ:=⟨a.rows.filter λb=>bz (b∉c),a.full-c.length,λb d=>cQ (a.s b d) (dd (n4 (a.gW c) (a.lc c) b d))⟩
def aZ.de (b:aZ) (a:ak6):aN:=⟨a,b.gW a,b.rows.filter λc=>bz (c∉a),b.lc a⟩
def aN.fin (a:aN):Prop:=∀b∈a.l,∀c∈a.rows,cH (b c)≠2047
instance(a:aN):alP a.fin:=aqo ..
def aZ.run:X->aZ->bA (aZ×bp aN)
 |0,a=>Y (a,[])
 |n+1,a=>match a.choose with
  |none=>bv
  |some []=>Y (a,[])
  |some b=>if(a.de b).fin then(aZ.run n (a.elim b)).map λc=>(c.1,a.de b::c.2) else bv
end
def gq (a:aZ):eI:=(be a.rows,(a.full:Z),a.rows.map (λb=>a.rows.map λc=>aw (a.s b c)),())
def aZ.okd (a:aZ):Prop:=∀b∈a.rows,∀c∈a.rows,cN (a.s b c)
def G0 (a:cN x):vI (aw x,())=Y (lS x 0,()):=by unfold vI;exact aj (LJ a) rfl
def aZ.H9 (c:aZ) (d:cH (c.bn a b)≠2047):nC (a6 (c.bn a b))=Y (c.av a b):=by obtain⟨f,e⟩:=Gq d;unfold aZ.av;rw[e];rfl
theorem Oo {c:aZ} (k:c.okd) (o:c.rows.length<=1000) (j:c.rows[b]?=Y a):Bj (gq c,(b:Z),())=Y (if c.fin a then(c.rows.map (λd=>aw (Y (c.av d a))),bt,()) else([],br,())):=by
 have ax:ar (gq c).1=(c.rows.length:Z):=(by rw[a7];exact b4 _ (fX _));unfold Bj;refine bQ.1 ?_;refine bF (P:=λl=>l=if c.fin a then .inl (c.rows.map (λd=>aw (Y (c.av d a))),()) else .inr ([],br,())) ?_ ?_
 ·refine bP c.rows.length (λd m=>m=((d:Z),(c.rows.take d).map (λd=>aw (Y (c.av d a))),())/\∀f∈c.rows.take d,cH (c.bn f a)≠2047) ⟨bq,ac⟩ ?_ ?_
  ·rintro d _ g ⟨rfl,h⟩;dsimp only;rw[ax,aS (aI (aa:(d:Z)<(c.rows.length:Z))),a9 aa];refine bC (y:=c.rows.map λf=>aw (c.s c.rows[d] f)) ?_ ?_
   ·rw[fq];show(c.rows.map _)[d]?=_;grind
   refine bC (y:=aw (c.s c.rows[d] a)) ?_ ?_
   ·grind [fq]
   refine bC (G0 (k _ (b1 g) _ (alo j))) ?_;refine bC (wQ (wS _ _)) ?_;dsimp only;by_cases e:cH (c.bn c.rows[d] a)=2047
   ·rw[aS (by show(!(!bz (cH (c.bn c.rows[d] a)=2047)))=bt;grind)];refine bu.2 ?_;rw[aA λi=>i _ (cK g) e]
   rw[aP (by show(!(!bz (cH (c.bn c.rows[d] a)=2047)))=br;grind)];refine bC (jN (wS _ _)) (bC (LB (fF _)) ?_);dsimp only;rw[c9 ae,bM];refine bu.2 ⟨?_,λf n=>?_⟩
   ·rw[hA,bh g,iK];rw[show nC (a6 (lS (c.s c.rows[d] a) 0))=Y (c.av c.rows[d] a) from c.H9 e];rfl
   grind [ct,bV,ak9]
  rintro _ ⟨rfl,h⟩;dsimp only;rw[ax,aP (aD (aa:¬(c.rows.length:Z)<(c.rows.length:Z))),cm] at*;refine bu.2 ?_;rw[b9 (show c.fin a from h)]
 rintro _ rfl;by_cases e:c.fin a
 ·rw[aB e,aB e];grind [bu]
 rw[aA e,aA e];grind [bu]
theorem P8 (a:fB d) (b:fB k):tC (aw (Y d),aw (Y k),())=Y (bz (d<k),()):=by
 unfold tC;refine aj (SB a b) ?_;show Y (bz (fo d k<0),())=_;unfold fo;by_cases c:d<k
 ·simp_all
 grind
theorem J4 {n:Z} (c:n.natAbs<1024) (d:a=65536):iv n=Y (n*2^a):=by
 have e:aV n.natAbs<=10:=fZ.2 aa;unfold iv;rw[BR (v:=n*2^a) ab (by rw[(aa:((0:Z)+65536).toNat=a)])];unfold oS;rw[aB];unfold fB;rw[na];rcases qj n.natAbs with b|b
 ·grind
 grind [s5]
theorem Gi (b:d.natAbs<1024) (e:fB (d*k)):cM (iv d) (Y k)=Y (d*k):=by obtain⟨a,c⟩:∃a:X,a=65536:=⟨_,bq⟩;rw[J4 b c];grind [Int.mul_assoc,ame,QK]
theorem Mf (c:cN (Y d)) (e:cN (Y k)) (a:fB (64*d)) (b:fB (41*k)):yr (aw (Y d),aw (Y k),())=Y (bz (41*k<=64*d),()):=by unfold yr;refine aj (Cj ab ab) (aj (kH (tR _) c) (aj (Cj ab ab) (aj (kH (tR _) e) ?_)));rw[Gi ab a,Gi ab b];refine aj (P8 a b) ?_;grind [aD,aI]
theorem yD (d:X->Z) (c:X):∀(a b:ak6) (e:Z×ak2),fa d c (a++b) e=fa d c b (fa d c a e)
 |[],_,_=>rfl
 |i::a,b,e=>yD d c a b _
def qu:ak2->Z
 |none=>-1
 |some a=>a
theorem YE {vs:ak7} (t:∀e∈vs,fB e) (s:vs.length<=1000) (c:X):yq (vs.map (λe=>aw (Y e)),(c:Z),())=Y (aw (Y (fa (λb=>vs.getD b 0) c (bK vs.length) (0,bv)).1),qu (fa (λb=>vs.getD b 0) c (bK vs.length) (0,bv)).2,()):=by
 have n:∀a,fB (fa (λb=>vs.getD b 0) c (bK a) (0,bv)).1:=λa=>by
  induction a with
  |zero=>exact dj _
  |succ a q=>
   rw[je,yD,fa,fa];split
   ·exact q
   split
   ·rcases cY a vs.length with j|j
    ·grind
    show fB (vs.getD a 0);rw[k2,pn j];exact dj _
   omega
 unfold yq;refine bQ.1 ?_;refine bF (P:=λg=>∃h,g=(qu (fa (λb=>vs.getD b 0) c (bK vs.length) (0,bv)).2,h,aw (Y (fa (λb=>vs.getD b 0) c (bK vs.length) (0,bv)).1),())) ?_ (by grind [bu]);refine bP vs.length (λa g=>∃h,g=(qu (fa (λb=>vs.getD b 0) c (bK a) (0,bv)).2,(a:Z),h,aw (Y (fa (λb=>vs.getD b 0) c (bK a) (0,bv)).1),())) ⟨_,bq⟩ ?_ ?_
 ·rintro a _ r ⟨h,rfl⟩;have o:=n a;have p:fa (λb=>vs.getD b 0) c (bK (a+1)) (0,bv)=if a=c then fa (λb=>vs.getD b 0) c (bK a) (0,bv) else if(fa (λb=>vs.getD b 0) c (bK a) (0,bv)).2=bv\/(fa (λb=>vs.getD b 0) c (bK a) (0,bv)).1<vs[a] then(vs[a],Y a) else fa (λb=>vs.getD b 0) c (bK a) (0,bv):=by
   grind [jL,alu,yD,fa]
  rw[p];generalize fa (λb=>vs.getD b 0) c (bK a) (0,bv)=l at*;obtain⟨f,d⟩:=l;dsimp only at o|-;rw[aS (aI (ae:(a:Z)<ar (vs.map λe=>aw (Y e)))),a9 aa];have m:aq (vs.map λe=>aw (Y e)) (a:Z)=Y (aw (Y vs[a])):=(by grind [fq,bV]);refine bF (P:=λg=>g=(qu (if a=c then(f,d) else if d=bv\/f<vs[a] then(vs[a],Y a) else(f,d)).2,h,aw (Y (if a=c then(f,d) else if d=bv\/f<vs[a] then(vs[a],Y a) else(f,d)).1),())) ?_ (by grind [bu]);refine bF (P:=λg=>g=(bz (a≠c/\(d=bv\/f<vs[a])),h,aw (Y f),())) ?_ ?_
  ·by_cases i:a=c
   ·subst i;rw[aP ae];grind [aD,bu]
   rw[aS ae];cases d with
   |none=>
    rw[aP af];grind [aI,bu]
   |some d=>
    rw[aS (by show(bz ((d:Z)<0)==br)=bt;grind)];simp_all [cy,bu,bC,P8,cK]
  rintro _ rfl;dsimp only;rw[cW];refine alv (λk=>?_) (λk=>?_)
  ·rw[aA k.1,aB k.2];exact bC m (bu.2 bq)
  by_cases i:a=c
  ·rw[aB i];grind [bu]
  rw[aA i,aA λj=>k ⟨i,j⟩];grind [bu]
 rintro _ ⟨h,rfl⟩;dsimp only;rw[aP (aD (ae:¬(vs.length:Z)<ar (vs.map λe=>aw (Y e))))];grind [bu]
theorem ja.VI (b:ja a d):ja a (d.natAbs:Z):=by
 rcases Int.natAbs_eq d with c|c
 ·grind
 have:=b.neg;grind
def bf.abs (c:bf a h t b (Y d)):bf a h t b (Y (d.natAbs:Z)):=by obtain⟨i,f,e,g⟩:=c;cases f;exact⟨_,bq,ja.VI e,aa⟩
def aZ.s3 (f:a=65536) (e:aZ) (c:cH (e.bn b h)≠2047):bf a 1074 1024 1 (Y (e.av b h)):=by have:=bf.kh f c;obtain⟨g,d⟩:=Gq c;rw[d] at this;unfold aZ.av;rw[d];exact this.abs
theorem JR {a:X} {e:X->Z} {h:X}:∀{c:ak6} {b:Z×ak2},(∀i∈c,bf a 1074 1024 1 (Y (e i)))->bf a 1074 1024 1 (Y b.1)->bf a 1074 1024 1 (Y (fa e h c b).1)
 |[],_,_,d=>d
 |i::c,b,f,d=>by rw[fa];refine JR (λg j=>f g ae) ?_;grind
def aZ.FO (e:a=65536) (c:aZ) (d:c.fin b):bf a 1074 1024 1 (Y (c.fj b).1):=JR (λg f=>c.s3 e (d g f)) bf.zero
theorem bf.cT (f:a=65536) (c:bf a t h b (Y d)) (i:h<=60000) (g:b<1048576):fB d:=by obtain⟨k,j,_,e⟩:=c;grind [bf.rng]
def bf.pc (g:h=65536) (e:bf h t a b (Y O)) (i:a<=60000) (m:b<=1024) (j:d.natAbs<=100):fB (d*O):=by obtain⟨n,l,_,f⟩:=e;cases l;refine bf.rng (c:=102400) g i ab (k:=a) ?_;rw[uO];refine dk (mV j f) ?_;rw[<-uZ];exact iX _ aa
theorem YD {c:aZ} (q:c.rows.Nodup) (p:c.rows[a]?=Y b):∀d,d<=c.rows.length->(fa (λf=>(c.rows.map λe=>c.av e b).getD f 0) a (bK d) (0,bv)).1=(fa (λe=>c.av e b) b (c.rows.take d) (0,bv)).1/\(∀g,(fa (λf=>(c.rows.map λe=>c.av e b).getD f 0) a (bK d) (0,bv)).2=Y g->g<d/\(fa (λe=>c.av e b) b (c.rows.take d) (0,bv)).2=c.rows[g]?)/\((fa (λf=>(c.rows.map λe=>c.av e b).getD f 0) a (bK d) (0,bv)).2=bv->(fa (λe=>c.av e b) b (c.rows.take d) (0,bv)).2=bv):=by
 obtain⟨z,rfl⟩:=ih.1 p;intro d
 induction d with
 |zero=>
  intro _;refine⟨bq,?_,λ_=>rfl⟩;intro g h;cases h
 |succ d t=>
  intro y;obtain⟨j,o,k⟩:=t aa;have r:c.rows.take (d+1)=c.rows.take d++[c.rows[d]]:=ag;have s:(c.rows.map λe=>c.av e c.rows[a]).getD d 0=c.av c.rows[d] c.rows[a]:=ae;have x:c.rows[d]=c.rows[a]↔d=a:=⟨λh=>(amw q).1 h,λh=>by grind⟩;rw[alu,yD,r,yD];generalize fa (λf=>(c.rows.map λe=>c.av e c.rows[a]).getD f 0) a (bK d) (0,bv)=l at*;generalize fa (λe=>c.av e c.rows[a]) c.rows[a] (c.rows.take d) (0,bv)=m at*;obtain⟨u,i⟩:=l;obtain⟨v,n⟩:=m;dsimp only at j o k;subst j;have A:i=bv↔n=bv:=by
   constructor
   ·exact k
   intro w;cases i with
   |none=>rfl
   |some g=>
    grind
  rw[fa,fa,fa,fa,s];grind
def PB {c:aZ} (q:c.rows.length<=1000) (o:c.rows.Nodup) (l:c.rows[b]?=Y a) (m:c.fin a):∃f:ak2,yq (c.rows.map (λd=>aw (Y (c.av d a))),(b:Z),())=Y (aw (Y (c.fj a).1),qu f,())/\(∀e,f=Y e->e<c.rows.length/\(c.fj a).2=c.rows[e]?)/\(f=bv->(c.fj a).2=bv):=by
 obtain⟨g,i⟩:∃g:X,g=65536:=⟨_,bq⟩;have h:=YE (vs:=c.rows.map λd=>c.av d a) (λr p=>by
  obtain⟨d,n,rfl⟩:=e1.1 p;exact(c.s3 i (m d n)).cT i ab ab) ae b
 obtain⟨aE,j,k⟩:=YD o l c.rows.length (bg _);rw[gC] at aE j k;rw[pp,di,aE] at h;exact⟨_,h,j,k⟩
def rf (a:aZ) (d:ak6) (e:ak7×bD×bw):Prop:=(e=([],br,())/\a.gR d=bv)\/∃c:ak6,e=(be c,bt,())/\(∀b∈c,b<a.rows.length)/\a.gR d=Y (c.map λb=>a.rows.getD b 0)
theorem rf.of {a:aZ} (c:a.gR f=a.gR l) (b:rf a l y):rf a f y:=by grind [rf]
theorem JS {e:X->Z} {d:X}:∀{c:ak6} {a:Z×ak2},(fa e d c a).2=bv->a.2=bv/\(fa e d c a).1=a.1
 |[],_,b=>⟨b,bq⟩
 |i::c,a,b=>by rw[fa] at b|-;obtain⟨f,g⟩:=JS b;grind
theorem Gh {b c e:Z} (f:d*2^a=O*b) (g:k*2^a=c*e):41*d<=64*k↔41*(O*b)<=64*(c*e):=by have h:(0:Z)<2^a:=mT ab;rw[<-f,<-g,<-kK,<-kK];simp_all
theorem aeQ {a:aZ} (J:a.okd) (p:a.rows.length<=1000) (F:a.rows.Nodup) (cs:a.full<=a.rows.length):ah (Bi (gq a,())) λh=>rf a (a.rows.take a.full) h:=by
 obtain⟨A,e⟩:∃A:X,A=65536:=⟨_,bq⟩;unfold Bi;refine bF (P:=λf=>(f=.inl ()/\a.gR (a.rows.take a.full)=Y [])\/∃h,f=.inr h/\rf a (a.rows.take a.full) h) ?_ ?_
 rotate_left
 ·rintro _ (⟨rfl,k⟩|⟨h,rfl,k⟩)
  ·exact bu.2 (.inr ⟨[],bq,ac,k⟩)
  grind [bu]
 refine bP a.full (λd bx=>bx=((d:Z),())/\a.gR (a.rows.take a.full)=a.gR ((a.rows.take a.full).drop d)) ⟨bq,bq⟩ ?_ ?_
 rotate_left
 ·rintro _ ⟨rfl,k⟩;dsimp only;rw[aP (aD (show¬(a.full:Z)<(gq a).2.1 from apa _))];refine bu.2 (.inl ⟨bq,?_⟩);grind [aoZ,alj,aZ.gR]
 rintro d _ dg ⟨rfl,am⟩;dsimp only;have a3:d<a.rows.length:=aa;have t:a.rows[d]?=Y a.rows[d]:=bV a3;have an:(a.rows.take a.full).drop d=a.rows[d]::(a.rows.take a.full).drop (d+1):=(by grind [anQ,alj]);have c1:a.rows.getD d 0=a.rows[d]:=ae;rw[aS (aI (show(d:Z)<(gq a).2.1 by show(d:Z)<(a.full:Z);omega)),a9 aa];refine bF (P:=λf=>(f=.inl ()/\a.gR ((a.rows.take a.full).drop d)=a.gR ((a.rows.take a.full).drop (d+1)))\/∃h,f=.inr (.inr (.inr h))/\rf a ((a.rows.take a.full).drop d) h) ?_ ?_
 rotate_left
 ·rintro _ (⟨rfl,k⟩|⟨h,rfl,k⟩)
  ·grind [bu]
  exact bu.2 (.inr ⟨h,bq,k.of am⟩)
 rw[an];generalize(a.rows.take a.full).drop (d+1)=B;generalize a.rows[d]=b at*;refine bC (Oo J p t) ?_;by_cases l:a.fin b
 rotate_left
 ·rw[ck l];dsimp only;rw[aS af];refine bu.2 (.inr ⟨_,bq,.inl ⟨bq,?_⟩⟩);rw[aZ.gR,b9 l]
 rw[b9 l];dsimp only;rw[aP af];obtain⟨ce,S,T,U⟩:=PB p F t l;refine bC S ?_;dsimp only;have q:=a.FO e l;have V:=alo t;have v:=a.s3 e (l b V);have r:cN (Y (a.fj b).1):=λn g=>(by cases g;exact q.cT e ab ab);have G:cN (Y (a.av b b)):=λn g=>(by cases g;exact v.cT e ab ab);have D:aq (a.rows.map λx=>aw (Y (a.av x b))) (d:Z)=Y (aw (Y (a.av b b))):=(by grind [fq]);refine bF (P:=λf=>f=if(a.fj b).1=0\/41*(a.fj b).1<=64*a.av b b then .inr (.inr (.inr (.inr ([(d:Z)],bt,())))) else .inl (aw (Y (a.fj b).1),())) ?_ ?_
 ·refine bF (P:=λf=>f=(bz ((a.fj b).1=0\/41*(a.fj b).1<=64*a.av b b),aw (Y (a.fj b).1),())) ?_ ?_
  ·refine bC (SC r) ?_;dsimp only;by_cases o:(a.fj b).1=0
   ·rw[aP (by show((gI (a.fj b).1==0)==br)=br;grind [jA,aI])];grind [aI,bu]
   rw[aS (by show((gI (a.fj b).1==0)==br)=bt;grind [jA,aD])];refine bC D (bC (Mf G r (v.pc e ab ab ab) (q.pc e ab ab ab)) ?_);simp_all [cy,bu]
  rintro _ rfl;dsimp only;rw[cW];refine alv (λo=>?_) (λo=>?_)
  ·rw[aB o];grind [bu]
  rw[aA o];grind [bu]
 rintro _ rfl;by_cases s:(a.fj b).1=0\/41*(a.fj b).1<=64*a.av b b
 ·rw[aB s];refine bu.2 (.inr ⟨_,bq,.inr ⟨[d],bq,ae,?_⟩⟩);simp_all [aA,cw,aB,xl,aZ.gR]
 rw[ck s];dsimp only;cases ce with
 |none=>
  exfalso;exact s (.inl (JS (U bq)).2)
 |some c=>
  obtain⟨a0,c2⟩:=T c bq;have u:a.rows[c]?=Y a.rows[c]:=bh a0;have cv:a.rows.getD c 0=a.rows[c]:=ae;have m:a.gR (b::B)=if a.rows[c]∉a.rows.take a.full then a.gR B else if¬a.fin a.rows[c] then bv else
   if 41*((a.fj b).1*(a.fj b).1)<=64*(a.av b b*(a.fj a.rows[c]).1) then Y [b] else
   if 41*(a.fj a.rows[c]).1<=64*a.av a.rows[c] a.rows[c] then Y [a.rows[c]] else Y [b,a.rows[c]]:=by
   simp_all [aA,cw,aZ.gR]
  have E:a.rows[c]∈a.rows.take a.full↔c<a.full:=(by grind [amw,amR]);generalize a.rows[c]=i at*;show ah (bif bz ((c:Z)>=(gq a).2.1) then _ else _) _;by_cases C:c<a.full
  rotate_left
  ·rw[aS (aI (show(c:Z)>=(gq a).2.1 by show(a.full:Z)<=(c:Z);omega))];exact bu.2 (.inl ⟨bq,m.trans (aB (mt E.1 C))⟩)
  rw[aP (aD (show¬(c:Z)>=(gq a).2.1 by show¬(a.full:Z)<=(c:Z);omega))];rw[aA (cw (E.2 C))] at m;refine bC (Oo J p u) ?_;by_cases j:a.fin i
  rotate_left
  ·rw[ck j];dsimp only;rw[aS af];exact bu.2 (.inr ⟨_,bq,.inl ⟨bq,m.trans (b9 j)⟩⟩)
  rw[b9 j];dsimp only;rw[aP af];rw[ck (cw j)] at m;obtain⟨dl,bl,_,_⟩:=PB p F u j;refine bC bl ?_;dsimp only;have w:=a.FO e j;have ad:=alo u;have H:=a.s3 e (j i ad);have I:cN (Y (a.fj i).1):=λn g=>(by cases g;exact w.cT e ab ab);have a4:cN (Y (a.av i i)):=λn g=>(by cases g;exact H.cT e ab ab);have ap:aq (a.rows.map λx=>aw (Y (a.av x i))) (c:Z)=Y (aw (Y (a.av i i))):=(by grind [fq]);obtain⟨y,_,_,ci,ax,O,K,L⟩:=bf.mul e v w ab ab ab;obtain⟨z,_,_,co,Q,R,M,N⟩:=bf.mul e q q ab ab ab;cases ax;cases O;cases Q;cases R;rw[K] at y;rw[M] at z;refine bC D (bC (kH G I) (bC (kH r r) ?_));rw[K,M];refine bC (Mf (λn g=>by cases g;exact y.cT e ab ab) (λn g=>by cases g;exact z.cT e ab ab) (y.pc e ab ab ab) (z.pc e ab ab ab)) ?_;dsimp only;rw[cW];refine alv (λf=>?_) (λf=>?_)
  ·rw[Gh N L] at f;refine bu.2 (.inr ⟨_,bq,.inr ⟨[d],bq,ae,?_⟩⟩);grind
  rw[Gh N L] at f;rw[ck f] at m;refine bC ap (bC (Mf a4 I (H.pc e ab ab ab) (w.pc e ab ab ab)) ?_);dsimp only;rw[cW];refine alv (λf=>?_) (λf=>?_)
  ·refine bu.2 (.inr ⟨_,bq,.inr ⟨[c],bq,ae,?_⟩⟩);grind
  refine bu.2 (.inr ⟨_,bq,.inr ⟨[d,c],bq,ae,?_⟩⟩);grind
def Su (b:eH k) (a:eH d) (c:eH O):vM ([k,d,O],())=Y (aw (jT [k,d,O]),()):=by unfold vM;refine aj (y:=k) rfl (aj (y:=O) rfl (aj (Sm b c) (aj (y:=d) rfl (aj (y:=d) rfl (aj (Sm a a) ?_)))));refine aj (Ck (kl _ _) (kl _ _)) rfl
def aZ.lR (c:aZ) (a b:X):eH (c.bn a b):=wS _ _
theorem yx {x:aZ} {i k I P:X} (c:x.rows[i]?=Y I) (d:x.rows[k]?=Y P):∃a,aq (gq x).2.2.1 (i:Z)=Y a/\aq a (k:Z)=Y (aw (x.s I P)):=by
 refine⟨x.rows.map λb=>aw (x.s I b),?_,?_⟩
 ·rw[fq];show(x.rows.map _)[i]?=_;grind
 grind [fq]
def ag2 {c:aZ} (m:c.okd) (e:c.rows[t]?=Y b) (f:c.rows[h]?=Y a) (g:hC) (k:g.2.1=[c.bn a a]):vP (g,gq c,[(h:Z)],(t:Z),())=Y ((c.lc [a]).map (· b),()):=by
 obtain⟨n,i,j⟩:=yx e f;have l:=m b (alo e) a (alo f);unfold vP;refine aj i (aj (y:=(h:Z)) rfl (aj j ?_));rw[aS af];rw[k];refine aj (y:=c.bn a a) rfl (aj (Y7 (c.lR a a)) ?_);dsimp only;rw[cW];show(if lK (c.bn a a)=0 then _ else _)=Y ([if lK (c.bn a a)=0 then 0 else gN (c.s b a) (a6 (c.bn a a)) 0],());by_cases d:lK (c.bn a a)=0
 ·rw[aB d,aB d]
 rw[aA d,aA d];exact aj (y:=c.bn a a) rfl (aj (jN (c.lR a a)) (aj (Lt l (fF _)) rfl))
def ag3 {c:aZ} (n:c.okd) {o f:X} (d:c.rows[o]?=Y h) (i:c.rows[f]?=Y a) (j:c.rows[t]?=Y b) (g:hC) (e:g.2.1=c.gW [a,b]):vP (g,gq c,[(f:Z),(t:Z)],(o:Z),())=Y ((c.lc [a,b]).map (· h),()):=by obtain⟨u,p,q⟩:=yx d i;obtain⟨v,r,s⟩:=yx d j;have l:=n h (jE d) a (jE i);have m:=n h (jE d) b (jE j);have e:g.2.1=[c.bn a a,c.bn b a,c.bn b b]:=e;unfold vP;refine aj p (aj (y:=(f:Z)) rfl (aj q ?_));rw[aP af];rw[e];refine aj r (aj (y:=(t:Z)) rfl (aj s ?_));refine aj (y:=c.bn a a) rfl (aj (jN (c.lR _ _)) (aj (y:=c.bn b a) rfl (aj (jN (c.lR _ _)) (aj (y:=c.bn b b) rfl (aj (jN (c.lR _ _)) ?_)))));refine aj (kH l (fF _)) (aj (kH m (fF _)) (aj (Ck (kl _ _) (kl _ _)) ?_));refine aj (kH m (fF _)) (aj (kH l (fF _)) (aj (Ck (kl _ _) (kl _ _)) ?_));have k:=Su (c.lR a a) (c.lR b a) (c.lR b b);refine aj k (aj (Lt (k7 _ _) (k7 _ _)) (aj k (aj (Lt (k7 _ _) (k7 _ _)) rfl)))
def Ye {e:hC} (h:ar e.1=1) (m:e.2.2.2.1=[c]) (l:e.2.1=[O]) (i:c[a]?=Y d) (j:c[b]?=Y k) (n:eH d) (o:eH k) (p:eH O):vO (e,(a:Z),(b:Z),())=Y (aw (iA d O k),()):=by have f:aq c (a:Z)=Y d:=(by rw[fq,i]);have g:aq c (b:Z)=Y k:=(by rw[fq,j]);unfold vO;dsimp only;rw[m,l,h];refine aj (y:=c) rfl (aj f (aj (jN n) (aj (y:=c) rfl (aj g (aj (jN o) (aj (y:=O) rfl (aj (jN p) (aj (kH (fF _) (fF _)) (aj (kH (kl _ _) (fF _)) ?_)))))))));rw[aP af];rfl
def Yf {h:hC} {i f j g:Z} (q:ar h.1=2) (w:h.2.2.2.1=[c,o]) (u:h.2.1=[i,f,j]) (r:c[a]?=Y d) (s:c[b]?=Y k) (t:o[a]?=Y O) (v:o[b]?=Y g) (z:eH d) (A:eH k) (B:eH O) (F:eH g) (C:eH i) (D:eH f) (E:eH j):vO (h,(a:Z),(b:Z),())=Y (aw (cQ (cQ (cQ (iA d i k) (iA d f g)) (iA O f k)) (iA O j g)),()):=by have l:aq c (a:Z)=Y d:=(by rw[fq,r]);have m:aq c (b:Z)=Y k:=(by rw[fq,s]);have n:aq o (a:Z)=Y O:=(by rw[fq,t]);have p:aq o (b:Z)=Y g:=(by rw[fq,v]);have e:=λ(x h:ak1)=>kl x h;unfold vO;dsimp only;rw[w,u,q];refine aj (y:=c) rfl (aj l (aj (jN z) (aj (y:=c) rfl (aj m (aj (jN A) (aj (y:=i) rfl (aj (jN C) (aj (kH (fF _) (fF _)) (aj (kH (e _ _) (fF _)) ?_)))))))));rw[aS af];refine aj (y:=((br,((br,(([]:ak7),())),((0:Z),()))),aw (cQ (cQ (cQ (iA d i k) (iA d f g)) (iA O f k)) (iA O j g)),())) ?_ bq;refine aj (y:=o) rfl (aj n (aj (jN B) (aj (y:=o) rfl (aj p (aj (jN F) (aj (y:=f) rfl (aj (jN D) (aj (y:=j) rfl (aj (jN E) ?_)))))))));refine aj (kH (fF _) (fF _)) (aj (kH (e _ _) (fF _)) (aj (Ci (e _ _) (e _ _)) ?_));refine aj (kH (fF _) (fF _)) (aj (kH (e _ _) (fF _)) (aj (Ci (k7 _ _) (e _ _)) ?_));refine aj (kH (fF _) (fF _)) (aj (kH (e _ _) (fF _)) (aj (Ci (k7 _ _) (e _ _)) rfl))
theorem B9 {l:ak6} (o:l.length<=1000) (a:X):∃e:Z,rT (be l,(a:Z),())=Y (e,())/\(a∈l->∃b:X,e=b/\l[b]?=Y a)/\(a∉l->e=-1):=by
 suffices h:ah (rT (be l,(a:Z),())) λd=>(a∈l->∃b:X,d.1=b/\l[b]?=Y a)/\(a∉l->d.1=-1) by obtain⟨⟨e,_⟩,k,m⟩:=h;grind
 have ax:ar (be l)=(l.length:Z):=(by rw[a7,fX]);unfold rT;refine bF (P:=λd=>(d=.inl ()/\a∉l)\/∃b:X,d=.inr ((b:Z),())/\l[b]?=Y a) ?_ ?_
 ·refine bP l.length (λc i=>i=((c:Z),())/\a∉l.take c) ⟨bq,ac⟩ ?_ ?_
  ·rintro c _ n ⟨rfl,f⟩;dsimp only;rw[ax,aS (aI (aa:(c:Z)<(l.length:Z))),a9 aa];refine bC (y:=(l[c]:Z)) ?_ ?_
   ·rw[fq];show(l.map λ(j:X)=>(j:Z))[c]?=_;grind
   rw[gp,cW];refine alv (λg=>?_) (λg=>?_)
   ·grind [bV,bu]
   grind [bu,ct,bV,ak9]
  rintro _ ⟨rfl,f⟩;dsimp only;rw[cm] at f;rw[ax,aP (aD (aa:¬(l.length:Z)<(l.length:Z)))];grind [bu]
 grind [bu,alo]
def gz (d:aZ) (c:ak6) (b:X):ak6:=((bK b).filter λa=>bz (a∉c)).map λa=>d.rows.getD a 0
theorem LN (b:aZ) (c:a∈f):gz b f (a+1)=gz b f a:=by grind [alu,gz]
theorem LO (b:aZ) (c:a∉f):gz b f (a+1)=gz b f a++[b.rows.getD a 0]:=by grind [alu,gz]
theorem G1 (c:aZ) (b:ak6) (a:X):(gz c b a).length<=a:=by grind [cu,alB,b6,gz]
def kY (a:aZ) (b:ak6) (c:X):eI:=(be (gz a b c),az ((a.full:Z)-(b.length:Z)),(gz a b c).map (λd=>(gz a b a.rows.length).map λe=>aw (a.s d e)),())
theorem ahd {a:aZ} (C:a.rows.length<=1000) (l:f.length<=1000):Fc (gq a,be f,())=Y (kY a f a.rows.length,()):=by
 have ax:ar (gq a).1=(a.rows.length:Z):=(by rw[a7];exact b4 _ (fX _));have m:ar (be f)=(f.length:Z):=(by rw[a7,fX]);have q:∀b,b<a.rows.length->aq (gq a).1 (b:Z)=Y ((a.rows.getD b 0:X):Z):=λb j=>(by rw[fq];show(a.rows.map λ(a:X)=>(a:Z))[b]?=_;grind);unfold Fc;refine bQ.1 ?_;dsimp only;rw[m];refine bF (P:=λe=>∃c,e=(c,kY a f a.rows.length,())) ?_ (by grind [bu]);refine bP a.rows.length (λb e=>∃c,e=((b:Z),c,kY a f b,())) ⟨_,bq⟩ ?_ ?_
 rotate_left
 ·rintro _ ⟨c,rfl⟩;dsimp only;rw[ax,aP (aD (aa:¬(a.rows.length:Z)<(a.rows.length:Z)))];grind [bu]
 rintro b _ j ⟨c,rfl⟩;dsimp only;rw[ax,aS (aI (aa:(b:Z)<(a.rows.length:Z))),a9 aa];refine bF (P:=λe=>∃c,e=(c,kY a f (b+1),())) ?_ (by grind [bu]);obtain⟨y,o,p,A⟩:=B9 l b;refine bC o ?_;dsimp only;have D:=G1 a f b;by_cases h:b∈f
 ·obtain⟨d,rfl,_⟩:=p h;rw[aS (aI (aa:(d:Z)>=0))];grind [LN,bu,kY]
 rw[aP (aD (ae:¬y>=0))];refine bC (q b j) ?_;have E:(be (gz a f b)).length=(gz a f b).length:=fX _;rw[c9 (by show(be (gz a f b)).length+1<=_;omega),aF];refine bF (P:=λe=>∃c,e=(c,((kY a f b).1++[((a.rows.getD b 0:X):Z)],(kY a f b).2),(gz a f a.rows.length).map (λg=>aw (a.s (a.rows.getD b 0) g)),())) ?_ ?_
 ·refine bP a.rows.length (λd e=>∃c,e=((d:Z),c,((kY a f b).1++[((a.rows.getD b 0:X):Z)],(kY a f b).2),(gz a f d).map (λg=>aw (a.s (a.rows.getD b 0) g)),())) ⟨c,bq⟩ ?_ ?_
  ·rintro d _ B ⟨c,rfl⟩;dsimp only;rw[aS (aI (aa:(d:Z)<(a.rows.length:Z))),a9 aa];refine bF (P:=λe=>∃c,e=(c,((kY a f b).1++[((a.rows.getD b 0:X):Z)],(kY a f b).2),(gz a f (d+1)).map (λg=>aw (a.s (a.rows.getD b 0) g)),())) ?_ (by grind [bu]);obtain⟨z,r,t,G⟩:=B9 l d;refine bC r ?_;dsimp only;by_cases n:d∈f
   ·obtain⟨u,rfl,_⟩:=t n;rw[aP (aD (aa:¬(u:Z)<0))];grind [LN,bu]
   rw[aS (aI (ae:z<0))];obtain⟨H,v,w⟩:=yx (x:=a) (i:=b) (k:=d) (I:=a.rows.getD b 0) (P:=a.rows.getD d 0) ae ae;have:=G1 a f d;refine bC v (bC w ?_);rw[c9 ae,aF];grind [LO,bu]
  rintro _ ⟨c,rfl⟩;dsimp only;rw[aP (aD (aa:¬(a.rows.length:Z)<(a.rows.length:Z)))];grind [bu]
 rintro _ ⟨c,rfl⟩;dsimp only;have F:(kY a f b).2.2.1.length=(gz a f b).length:=b6 ..;rw[c9 ae,bM];refine bu.2 ⟨c,?_⟩;unfold kY;rw[LO a h,o7,amQ];rfl
structure mX (x:aZ) (l P:ak6):Prop where
 gd:(∃k a,l=[k]/\P=[a]/\x.rows[k]?=Y a)\/∃k j a b,l=[k,j]/\P=[a,b]/\x.rows[k]?=Y a/\x.rows[j]?=Y b
theorem mX.len {a:aZ} (c:mX a f l):f.length=l.length/\f.length<=2/\0<f.length/\(a.lc l).length=f.length:=by rcases c.gd with⟨d,b,rfl,rfl,_⟩|⟨d,g,b,e,rfl,rfl,_⟩<;>exact⟨bq,ac,ac,bq⟩
theorem mX.get {d:aZ} (e:mX d f l) (j:a<f.length):∃c b,f[a]?=Y c/\l[a]?=Y b/\d.rows[c]?=Y b:=by
 rcases e.gd with⟨c,b,rfl,rfl,g⟩|⟨c,k,b,h,rfl,rfl,g,i⟩
 ·grind
 grind
def mX.Ho {c:aZ} (k:mX c l f) (i:c.okd) (g:c.rows[b]?=Y a) (d:hC) (h:d.2.1=c.gW f):vP (d,gq c,be l,(b:Z),())=Y ((c.lc f).map (· a),()):=by
 rcases k.gd with⟨n,j,rfl,rfl,e⟩|⟨n,p,j,o,rfl,rfl,e,m⟩
 ·exact ag2 i g e d h
 exact ag3 i g e m d h
theorem P1 (e:aZ) (d:ak6):∀c∈e.lc d,∀b,eH (c b):=by
 intro c a b;unfold aZ.lc at a;split at a
 ·obtain rfl:=ak9.1 a;dsimp only;split
  ·exact⟨ab,ab⟩
  exact wJ 0
 ·simp only[gn,anr,or_false] at a;rcases a with rfl|rfl
  ·exact wJ 0
  exact wJ 0
 grind
def h7 (a:aZ) (e b:ak6) (d:X):akW:=(a.lc b).map λc=>(gz a e d).map c
def mX.form {a:aZ} (j:mX a f l) {q:hC} (e:ar q.1=(f.length:Z)) (h:q.2.2.2.1=h7 a f l a.rows.length) (g:q.2.1=a.gW l) {i m I M:X} (r:(gz a f a.rows.length)[i]?=Y I) (s:(gz a f a.rows.length)[m]?=Y M):vO (q,(i:Z),(m:Z),())=Y (aw (n4 (a.gW l) (a.lc l) I M),()):=by
 have d:=P1 a l;have c:∀b:X->Z,((gz a f a.rows.length).map b)[i]?=Y (b I)/\((gz a f a.rows.length).map b)[m]?=Y (b M):=λb=>⟨ae,ae⟩;rcases j.gd with⟨n,b,rfl,rfl,k⟩|⟨n,t,b,o,rfl,rfl,k,p⟩
 ·exact Ye e h g (c _).1 (c _).2 (d _ (fH.2 bq) I) (d _ (fH.2 bq) M) (a.lR _ _)
 exact Yf e h g (c _).1 (c _).2 (c _).1 (c _).2 (d _ (mU ..) I) (d _ (mU ..) M) (d _ (ht _ (fH.2 bq)) I) (d _ (ht _ (fH.2 bq)) M) (a.lR _ _) (a.lR _ _) (a.lR _ _)
theorem afI {b a:bp i} (g:b.length=a.length) {k:X} (f:k<a.length) {c:i} (h:b[k]?=Y c):(b.take k++a.drop k).set k c=b.take (k+1)++a.drop (k+1):=by have d:(b.take k).length=k:=ae;have e:a.drop k=a[k]::a.drop (k+1):=zN f;rw[List.set_append,aA aa,d,pt,e];grind [ct,alG]
theorem Z9 {b a:bp i} (c:b.length=a.length) {k:X} (d:k<a.length):(b.take k++a.drop k)[k]?=Y a[k]:=by grind
theorem Zw (b:aZ) (a:ak6):(b.lc a).length<=2:=by unfold aZ.lc;grind
theorem X5 {b:aZ} (ap:a<b.rows.length) (av:b.rows.length<=1000) (am:a∉l) {t:eI} {u:hC} {v:eI} {p q s:aM}:ah (loop (σ:=rC) (ρ:=(nV⊕(nV⊕(rC⊕(nV⊕(eI×hC×bD×bw)))))) (λ(h,D,E,w,d,_)=>
 bif bz (h<ar ((b.lc f).map (· (b.rows.getD a 0)))) then
 (aq ((b.lc f).map (· (b.rows.getD a 0))) h).bind λR=>
 (pI (R,())).bind λ(N,_)=>
  bif !N then
 Y (.inr (.inr (.inr (.inr (.inr (w,d,br,())))))) else
 (bm (d.2.2.2.1).length h).bind λC=>
 (aq ((b.lc f).map (· (b.rows.getD a 0))) h).bind λF=>
 (ba d.2.2.2.1 C λG=>Y G).bind λO=>
 (cI (O.length+([F]).length)).bind λ_=>
 (bm (d.2.2.2.1).length h).bind λo=>
  bif bL C o&&bt then
 (ba d.2.2.2.1 o λH=>Y H).bind λP=>
 (((((ba d.2.2.2.1 o λ_=>Y ((d.2.2.2.1).set o (P++[F]))).map λS=>(S,d.2.2.2.2)).map λT=>(d.2.2.1,T)).map λU=>(d.2.1,U)).map λV=>(d.1,V)).bind λad=>
 Y (.inl (aO h,D,E,w,ad,())) else bv else
 Y (.inr (.inl (D,E,w,d,())))) (0,t,u,v,(p,q,s,h7 b l f a,()),())) λj=>
  ((∀g∈b.lc f,cH (g (b.rows.getD a 0))≠2047)/\j=.inl (t,u,v,(p,q,s,h7 b l f (a+1),()),()))\/((∃g∈b.lc f,cH (g (b.rows.getD a 0))=2047)/\∃Q M,j=.inr (.inr (.inr (.inr (Q,M,br,()))))):=by
 have a0:=Zw b f;generalize an:b.rows.getD a 0=e;have bl:h7 b l f (a+1)=(b.lc f).map λg=>(gz b l a).map g++[g e]:=(by grind [alq,LO,h7]);have A:(h7 b l f (a+1)).length=(h7 b l f a).length:=(by grind [b6,h7]);have a3:(h7 b l f a).length=(b.lc f).length:=ae;refine bP (b.lc f).length (λc j=>j=((c:Z),t,u,v,(p,q,s,(h7 b l f (a+1)).take c++(h7 b l f a).drop c,()),())/\∀g∈(b.lc f).take c,cH (g e)≠2047) ⟨ac,ac⟩ ?_ ?_
 ·rintro c _ z ⟨rfl,I⟩;dsimp only;rw[aS (aI (ae:(c:Z)<ar ((b.lc f).map (· e))))];have x:aq ((b.lc f).map (· e)) (c:Z)=Y ((b.lc f)[c] e):=by
   grind [fq,bV]
  have J:=b1 z;refine bC x (bC (wQ (P1 b f _ J e)) ?_);dsimp only;by_cases j:cH ((b.lc f)[c] e)=2047
  ·rw[aS ae];grind [bu]
  rw[aP ae];have a4:((h7 b l f (a+1)).take c++(h7 b l f a).drop c).length=(b.lc f).length:=ae;have r:=Z9 A (k:=c) aa;have B:(h7 b l f a)[c]'(by omega)=(gz b l a).map (b.lc f)[c]:=by grind [h7]
  have y:=eV (n:=((h7 b l f (a+1)).take c++(h7 b l f a).drop c).length) (i:=c) aa;have bx:=G1 b l a;refine bC y (bC x ?_);rw[gh r,aF,B];rw[c9 ae,aF];refine bC y ?_;rw[aS ac,gh r,aF,B,gh r];have L:(h7 b l f (a+1))[c]?=Y ((gz b l a).map (b.lc f)[c]++[(b.lc f)[c] e]):=ae;have K:=afI A (k:=c) aa L;rw[K,a9 aa];refine bu.2 ⟨bq,λg m=>?_⟩;rw[hA,bh z] at m;rcases hM.1 m with m|m
  ·grind
  simp_all
 rintro _ ⟨rfl,I⟩;dsimp only;rw[aP (aD (ae:¬((b.lc f).length:Z)<ar ((b.lc f).map (· e))))];grind [cj,aoZ,bu,cm]
def lU (d:aZ) (e a:ak6) (f g:X):bp (bp fV):=aC a.length λb=>aC a.length λc=>
 if b<f\/(b=f/\c<g) then aw (cQ (d.s (a.getD b 0) (a.getD c 0)) (dd (n4 (d.gW e) (d.lc e) (a.getD b 0) (a.getD c 0)))) else aw (d.s (a.getD b 0) (a.getD c 0))
theorem Gc (a:ak6) (b:X->i):a.map b=aC a.length λc=>b (a.getD c 0):=by grind [bV,kz,b6,List.ext_getElem,cU]
theorem agS (d:aZ) (e a:ak6):lU d e a 0 0=a.map λb=>a.map λc=>aw (d.s b c):=by unfold lU;rw[Gc a (λb=>a.map λc=>aw (d.s b c))];simp_all [aA,c4,Gc]
theorem agQ (d:aZ) (b a:ak6) (c:X):lU d b a c a.length=lU d b a (c+1) 0:=by unfold lU;refine c4 λg e=>c4 λh f=>?_;grind
theorem agP (a:aZ) (c b:ak6):lU a c b b.length 0=b.map λd=>b.map λe=>aw (cQ (a.s d e) (dd (n4 (a.gW c) (a.lc c) d e))):=by unfold lU;rw[Gc b (λd=>b.map λe=>aw (cQ (a.s d e) (dd (n4 (a.gW c) (a.lc c) d e))))];refine c4 λg f=>?_;simp_all [aB,c4,Gc]
theorem agR (d:aZ) (e c:ak6) (i:a<c.length) (j:b<c.length):∃f,(lU d e c a b)[a]?=Y f/\f.length=c.length/\f[b]?=Y (aw (d.s (c.getD a 0) (c.getD b 0)))/\(lU d e c a b).set a (f.set b (aw (cQ (d.s (c.getD a 0) (c.getD b 0)) (dd (n4 (d.gW e) (d.lc e) (c.getD a 0) (c.getD b 0))))))=lU d e c a (b+1):=by
 refine⟨_,h0 i,cU _ _,?_,?_⟩
 ·rw[h0 j,aA aa]
 unfold lU;rw[ha,ha];refine c4 λk m=>?_;by_cases g:k=a
 ·subst g;rw[gA];refine c4 λl n=>?_;by_cases h:l=b
  ·simp_all [gA,aB]
  rw[gT _ _ h];grind
 simp_all [gT,c4,aB,aA]
def Ji (a:aZ) (b c:ak6):eI×hC×bD×bw:=
 ((
  be (gz a b a.rows.length),az ((a.full:Z)-(b.length:Z)),(gz a b a.rows.length).map (λd=>(gz a b a.rows.length).map λe=>aw (cQ (a.s d e) (dd (n4 (a.gW c) (a.lc c) d e)))),()),
  (be c,a.gW c,be (gz a b a.rows.length),h7 a b c a.rows.length,()),bt,())
theorem ae8 {a:aZ} (N:a.okd) (an:a.rows.length<=1000) {b:ak6} (w:mX a f b):ah (yp (gq a,be f,())) λE=>
  (((∀d∈a.lc b,∀i,i<a.rows.length->i∉f->cH (d (a.rows.getD i 0))≠2047)/\E=Ji a f b)\/((∃d∈a.lc b,∃i,i<a.rows.length/\i∉f/\cH (d (a.rows.getD i 0))=2047)/\E.2.2.1=br)):=by
 obtain⟨fn,fl,cv,c1⟩:=w.len;have ax:ar (gq a).1=(a.rows.length:Z):=(by rw[a7];exact b4 _ (fX _));have F:ar (be f)=(f.length:Z):=(by rw[a7,fX]);have dg:∀e d:X,a.rows[e]?=Y d->aq (gq a).1 (e:Z)=Y (d:Z):=λe d o=>(by rw[fq];show(a.rows.map λ(a:X)=>(a:Z))[e]?=_;grind);have t:∀k e:X,f[k]?=Y e->aq (be f) (k:Z)=Y (e:Z):=λk e cs=>(by rw[fq];show(f.map λ(a:X)=>(a:Z))[k]?=_;grind);unfold yp;refine bC (ahd an aa) ?_;dsimp only;have fp:=G1 a f a.rows.length;refine bF (P:=λq=>∃p r,q=(p,r,kY a f a.rows.length,(be b,([]:aM),be (gz a f a.rows.length),bJ f.length ([]:aM),()),())) ?_ ?_
 ·refine bP f.length (λk q=>∃p r,q=((k:Z),p,r,kY a f a.rows.length,(be (b.take k),([]:aM),be (gz a f a.rows.length),bJ k ([]:aM),()),())) ⟨_,_,bq⟩ ?_ ?_
  ·rintro k _ dl ⟨p,r,rfl⟩;dsimp only;obtain⟨e,d,aE,av,u⟩:=w.get dl;rw[F,aS (aI (aa:(k:Z)<(f.length:Z))),a9 aa];refine bC (t k e aE) (bC (dg e d u) ?_);rw[c9 (by grind [fX]),bM,c9 ae,bM];refine bu.2 ⟨p,r,?_⟩;rw[ct,av];simp only[o7,Option.toList];rw[show bJ (k+1) ([]:aM)=bJ k []++[[]] from List.replicate_succ'];rfl
  rintro _ ⟨p,r,rfl⟩;dsimp only;rw[F,aP (aD (aa:¬(f.length:Z)<(f.length:Z))),cj aa];grind [bu]
 rintro _ ⟨p,r,rfl⟩;dsimp only;obtain⟨z,el,aE,av,u⟩:=w.get cv;have K:∀{e g d C:X},a.rows[e]?=Y d->a.rows[g]?=Y C->∃v,aq (gq a).2.2.1 (e:Z)=Y v/\aq v (g:Z)=Y (aw (a.s d C))/\cN (a.s d C):=λo x=>(by obtain⟨v,O,Q⟩:=yx o x;exact⟨v,O,Q,N _ (alo o) _ (alo x)⟩);obtain⟨v,O,Q,d0⟩:=K u u;refine bC (t 0 z aE) (bC O (bC (t 0 z aE) (bC Q (bC (G0 d0) ?_))));dsimp only;refine bF (P:=λq=>q=(p,r,kY a f a.rows.length,(be b,a.gW b,be (gz a f a.rows.length),h7 a f b 0,()),())) ?_ ?_
 ·have a4:bJ f.length ([]:aM)=h7 a f b 0:=by
   unfold h7 gz;rw[<-c1];exact ao5.symm
  rw[a4,F];rcases w.gd with⟨e,d,rfl,rfl,y⟩|⟨e,g,d,C,rfl,rfl,y,H⟩
  ·rw[aP af];have:z=e:=(gy aE).symm;subst this;rw[u] at y;cases y;exact bu.2 bq
  have:z=e:=(gy aE).symm;subst this;rw[u] at y;cases y;obtain⟨fs,d1,d2,d3⟩:=K H u;obtain⟨ft,d4,d5,d6⟩:=K H H;rw[aS af];refine bC (t 1 g bq) (bC d1 (bC (t 0 z bq) (bC d2 (bC (G0 d3) (bC (t 1 g bq) (bC d4 (bC (t 1 g bq) (bC d5 (bC (G0 d6) ?_)))))))));rw[c9 ac,aF];exact bu.2 bq
 rintro _ rfl;dsimp only;refine bF (P:=λq=>((∀d∈a.lc b,∀i,i<a.rows.length->i∉f->cH (d (a.rows.getD i 0))≠2047)/\q=.inl (p,r,kY a f a.rows.length,(be b,a.gW b,be (gz a f a.rows.length),h7 a f b a.rows.length,()),()))\/((∃d∈a.lc b,∃i,i<a.rows.length/\i∉f/\cH (d (a.rows.getD i 0))=2047)/\∃B A,q=.inr (B,A,br,()))) ?_ ?_
 ·refine bP a.rows.length (λi q=>q=((i:Z),p,r,kY a f a.rows.length,(be b,a.gW b,be (gz a f a.rows.length),h7 a f b i,()),())/\∀d∈a.lc b,∀g,g<i->g∉f->cH (d (a.rows.getD g 0))≠2047) ⟨bq,λd o g co=>absurd co aa⟩ ?_ ?_
  ·rintro i _ D ⟨rfl,bl⟩;dsimp only;rw[ax,aS (aI (aa:(i:Z)<(a.rows.length:Z))),a9 aa];obtain⟨E,d7,d8,fr⟩:=B9 (l:=f) aa i;refine bF (P:=λq=>(q=.inl (p,r,kY a f a.rows.length,(be b,a.gW b,be (gz a f a.rows.length),h7 a f b (i+1),()),())/\∀d∈a.lc b,∀g,g<i+1->g∉f->cH (d (a.rows.getD g 0))≠2047)\/((∃d∈a.lc b,∃i,i<a.rows.length/\i∉f/\cH (d (a.rows.getD i 0))=2047)/\∃B A,q=.inr (.inr (.inr (B,A,br,()))))) ?_ ?_
   ·refine bC d7 ?_;dsimp only;by_cases G:i∈f
    ·obtain⟨g,rfl,_⟩:=d8 G;rw[aS (aI (aa:(g:Z)>=0))];refine bu.2 (.inl ⟨?_,λd o m L ap=>?_⟩)
     ·simp_all [LN,h7]
     grind
    rw[aP (aD (ae:¬E>=0))];have J:a.rows[i]?=Y (a.rows.getD i 0):=ag;refine bC (w.Ho N J _ rfl) ?_;dsimp only;refine bF (X5 D an G) ?_;rintro _ (⟨bx,rfl⟩|⟨⟨d,o,x⟩,ek,d9,rfl⟩)
    ·refine bu.2 (.inl ⟨bq,λd o m L ap=>?_⟩);grind
    exact bu.2 (.inr ⟨⟨d,o,i,D,G,x⟩,ek,d9,bq⟩)
   rintro _ (⟨rfl,ex⟩|⟨x,B,A,rfl⟩)
   ·grind [bu]
   grind [bu]
  rintro _ ⟨rfl,bl⟩;dsimp only;rw[ax,aP (aD (aa:¬(a.rows.length:Z)<(a.rows.length:Z)))];grind [bu]
 rintro _ (⟨bx,rfl⟩|⟨x,B,A,rfl⟩)
 rotate_left
 ·grind [bu]
 dsimp only;have a3:kY a f a.rows.length=(be (gz a f a.rows.length),az ((a.full:Z)-(f.length:Z)),lU a b (gz a f a.rows.length) 0 0,()):=(by rw[agS];rfl);have ci:=λi m I M J a0=>w.form (q:=(be b,a.gW b,be (gz a f a.rows.length),h7 a f b a.rows.length,())) (i:=i) (m:=m) (I:=I) (M:=M) (by grind [fX,a7]) rfl rfl J a0;have V:∀d∈gz a f a.rows.length,d∈a.rows:=λd o=>(by unfold gz at o;obtain⟨e,cs,rfl⟩:=apb.1 o;simp_all);rw[a3];generalize eq:gz a f a.rows.length=c at*;refine bF (P:=λq=>∃h j,q=(h,j,(be c,az ((a.full:Z)-(f.length:Z)),lU a b c c.length 0,()),(be b,a.gW b,be c,h7 a f b a.rows.length,()),())) ?_ ?_
 rotate_left
 ·rintro _ ⟨h,j,rfl⟩;simp_all [agP,bu,Ji]
 have em:∀S:Z×bp (bp fV)×bw,ar ((be c,S):eI).1=(c.length:Z):=λS=>(by grind [a7,fX]);refine bP c.length (λi q=>∃h j,q=((i:Z),h,j,(be c,az ((a.full:Z)-(f.length:Z)),lU a b c i 0,()),(be b,a.gW b,be c,h7 a f b a.rows.length,()),())) ⟨_,_,bq⟩ ?_ ?_
 rotate_left
 ·rintro _ ⟨h,j,rfl⟩;dsimp only;rw[a7,fX,aP (aD (aa:¬(c.length:Z)<(c.length:Z)))];grind [bu]
 rintro i _ D ⟨h,j,rfl⟩;dsimp only;rw[a7,fX,aS (aI (aa:(i:Z)<(c.length:Z))),a9 aa];refine bF (P:=λq=>∃h j,q=(h,j,(be c,az ((a.full:Z)-(f.length:Z)),lU a b c i c.length,()),(be b,a.gW b,be c,h7 a f b a.rows.length,()),())) ?_ ?_
 rotate_left
 ·rintro _ ⟨h,j,rfl⟩;refine bu.2 ⟨h,j,?_⟩;rw[agQ]
 refine bP c.length (λm q=>∃h j,q=((m:Z),h,j,(be c,az ((a.full:Z)-(f.length:Z)),lU a b c i m,()),(be b,a.gW b,be c,h7 a f b a.rows.length,()),())) ⟨_,_,bq⟩ ?_ ?_
 rotate_left
 ·rintro _ ⟨h,j,rfl⟩;dsimp only;rw[aP (aD (ag:¬(c.length:Z)<ar (be c)))];grind [bu]
 rintro m _ L ⟨h,j,rfl⟩;dsimp only;rw[aS (aI (ag:(m:Z)<ar (be c))),a9 aa];obtain⟨v,R,fT,eD,f0⟩:=agR a b c D L;have ap:(lU a b c i m).length=c.length:=cU _ _;have T:c[i]?=Y (c.getD i 0):=ag;have U:c[m]?=Y (c.getD m 0):=ag;have ad:=eV (n:=(lU a b c i m).length) (i:=i) aa;have am:=eV (n:=v.length) (i:=m) aa;have c2:cN (a.s (c.getD i 0) (c.getD m 0)):=N _ (V _ (alo T)) _ (V _ (alo U));have ce:cN (n4 (a.gW b) (a.lc b) (c.getD i 0) (c.getD m 0)):=by
  unfold n4;split
  ·exact kl _ _
  ·exact k7 _ _
  intro fz ds;cases ds;exact dj _
 refine bC ad (bC ad ?_);rw[gh R,aF];refine bC am ?_;rw[gh R,gh eD,aF];refine bC (ci i m _ _ T U) ?_;refine bC (Ck c2 ce) ?_;refine bC am ?_;rw[gh R,gh eD];refine bu.2 ⟨h,j,?_⟩;grind
def jK (a:aN):hC:=(be a.aQ,a.d,be a.rows,a.l.map (λb=>a.rows.map b),())
theorem afq (a:ak6):a=(bK a.length).map λb=>a.getD b 0:=by refine xi ac λe c d=>?_;grind
theorem mX.mem {b:aZ} (e:mX b l f) (n:b.rows.Nodup) (m:a<b.rows.length):b.rows.getD a 0∈f↔a∈l:=by
 have h:b.rows.getD a 0=b.rows[a]:=ae;have p:∀{d c:X},b.rows[d]?=Y c->(b.rows[a]=c↔a=d):=λ{d c} k=>(by grind [amw,alT]);rw[h];rcases e.gd with⟨d,c,rfl,rfl,g⟩|⟨d,o,c,i,rfl,rfl,g,j⟩
 ·grind
 grind
def mX.rest {a:aZ} (d:mX a l f) (e:a.rows.Nodup):gz a l a.rows.length=a.rows.filter λg=>bz (g∉f):=by
 conv=>rhs;rw[afq a.rows]
 unfold gz;rw[apc];congr 1;refine qc λc b=>?_;have b:=hN.1 b;show bz (c∉l)=bz (a.rows.getD c 0∉f);rw[cy,d.mem e b]
theorem ae7 {a:aZ} (w:a.okd) (s:a.rows.length<=1000) (k:a.rows.Nodup) (e:mX a l f) (y:a.full<=a.rows.length) (z:l.length<=a.full):ah (yp (gq a,be l,())) λn=>((a.de f).fin/\n=(gq (a.elim f),jK (a.de f),bt,()))\/(¬(a.de f).fin/\n.2.2.1=br):=by
 have t:=e.rest k;have q:(a.de f).fin↔∀c∈a.lc f,∀b,b<a.rows.length->b∉l->cH (c (a.rows.getD b 0))≠2047:=by
  constructor
  ·intro j c h b d o;refine j c h _ (h4.2 ⟨?_,alc (mt (e.mem k d).1 o)⟩);grind
  intro j c h b d;have d:b∈a.rows.filter λb=>bz (b∉f):=d;obtain⟨i,g⟩:=h4.1 d;obtain⟨m,p,rfl⟩:=hV.1 i;have r:a.rows.getD m 0=a.rows[m]:=ae;have g:=amF g;rw[<-r] at g|-;exact j c h m p (mt (e.mem k p).2 g)
 refine(ae8 w s e).mono λn u=>?_;rcases u with⟨i,rfl⟩|⟨⟨c,h,b,d,o,x⟩,g⟩
 ·refine .inl ⟨q.2 i,?_⟩;have v:az ((a.full:Z)-(l.length:Z))=((a.full-f.length:X):Z):=by
   have:=e.len.1;grind [cF]
  unfold Ji;rw[v];unfold h7;rw[t];rfl
 grind
def lf (a b:X->Rat):X->Rat
 |0=>0
 |n+1=>lf a b n+a n*b n
def nP (c:X) (b:ak6):ak6:=b.filter λa=>bz (a≠c)
def Z8:a∈nP b f↔a∈f/\a≠b:=by simp[nP]
def aax (b:f.Nodup):(nP a f).Nodup:=b.sublist xj
def ahe (c:a∉f):nP a f=f:=oD.2 λe d=>alc λb=>c (b▸d)
def Ut {b:X}:∀{a:ak6},a.Nodup->b∈a->(nP b a).length+1=a.length
 |[],_,d=>by simp at d
 |i::a,e,d=>by
  rw[lx] at e;by_cases c:i=b
  ·subst c;have:nP i (i::a)=nP i a:=(by simp[nP]);rw[this,ahe e.1,ju]
  have:nP b (i::a)=i::nP b a:=(by simp[nP,c]);rw[this,ju,ju,Ut e.2 (by simpa[Ne.symm c] using d)]
theorem Pz {e:X->Z} {b:X}:∀{d:ak6} {a:Z×ak2},a.2≠Y b->(fa e b d a).2≠Y b
 |[],_,c=>c
 |i::d,a,c=>by rw[fa];refine Pz ?_;grind
def uK (c b:ak6):Prop:=b=[]\/(∃a,b=[a]/\a∈c)\/∃a d,b=[a,d]/\a∈c/\d∈c/\a≠d
def Ip {c:aZ}:∀{g d:ak6},(∀p∈g,p∈c.rows.take c.full)->c.gR g=Y d->uK (c.rows.take c.full) d
 |[],d,_,b=>by rw[aZ.gR] at b;cases b;exact .inl bq
 |p::g,d,h,b=>by
  have f:=h p ac;rw[aZ.gR] at b;split at b
  ·cases b
  split at b
  ·cases b;exact .inr (.inl ⟨p,bq,f⟩)
  split at b
  ·cases b;exact .inr (.inl ⟨p,bq,f⟩)
  rename_i i k;split at b
  ·exact Ip (λl m=>h l ae) b
  rename_i e;have e:=Classical.not_not.1 e;split at b
  ·cases b
  split at b
  ·cases b;exact .inr (.inl ⟨p,bq,f⟩)
  split at b
  ·cases b;exact .inr (.inl ⟨i,bq,e⟩)
  cases b;refine .inr (.inr ⟨p,i,bq,f,e,λj=>?_⟩);subst j;exact Pz (a:=(0,bv)) ac k
theorem agG (c:b∈f) (d:h∈f) (g:b≠h):2<=f.length:=by
 match f,c,d with
 |[a],c,d=>
  grind
 |a::e::f,_,_=>simp
theorem rf.use {a:aZ} (p:rf a (a.rows.take a.full) y) (r:a.full<=a.rows.length):(y=([],br,())/\a.choose=bv)\/(y=([],bt,())/\a.choose=Y [])\/∃d i,y=(be d,bt,())/\mX a d i/\d.length<=a.full/\0<d.length/\a.choose=Y i:=by
 rcases p with⟨f,j⟩|⟨d,f,j,g⟩
 ·exact .inl ⟨f,j⟩
 have s:∀c∈d,a.rows[c]?=Y (a.rows.getD c 0):=λc q=>ae;have v:(a.rows.take a.full).length=a.full:=ae;rcases Ip (λe h=>h) g with b|⟨e,b,h⟩|⟨e,m,b,h,u,t⟩
 ·rw[b] at g;have:d=[]:=List.map_eq_nil_iff.1 b;subst this;exact .inr (.inl ⟨f,g⟩)
 ·obtain⟨c,rfl,q⟩:=List.map_eq_singleton_iff.1 b;refine .inr (.inr ⟨[c],[e],f,⟨.inl ⟨c,e,bq,bq,?_⟩⟩,?_,ac,by rw[<-b];exact g⟩)
  ·grind
  grind
 match d,b with
 |[c,l],b=>
  simp only[ir,sL,iC,cf] at b;obtain⟨o,n⟩:=b;have k:=g;simp only[ir,sL,o,n] at k;refine .inr (.inr ⟨[c,l],[e,m],f,⟨.inr ⟨c,l,e,m,bq,bq,?_,?_⟩⟩,?_,ac,k⟩)
  ·grind
  ·grind
  grind [agG,List.length_cons,List.length_nil]
structure k1 (x:aZ):Prop where
 okd:x.okd
 nd:x.rows.Nodup
 full:x.full<=x.rows.length
theorem FA:∀{S:ak6},S.Nodup->f.Nodup->(∀a∈f,a∈S)->(S.filter λb=>bz (b∉f)).length+f.length=S.length:=by
 induction f with
 |nil=>simp_all
 |cons a f i=>
  intro S d c e;rw[lx] at c;have k:=i (S:=nP a S) (aax d) c.2 λj h=>Z8.2 ⟨e j ae,λg=>c.1 (g▸h)⟩;have l:=Ut d (e a ac);have m:(nP a S).filter (λb=>bz (b∉f))=S.filter λb=>bz (b∉a::f):=(by unfold nP;rw[C3];grind);grind
theorem k1.elim {a:aZ} (d:k1 a) {b:ak6} (h:uK (a.rows.take a.full) b):k1 (a.elim b) where
 okd:=λg _ l _=>k7 _ _
 nd:=d.nd.sublist xj
 full:=by
  show a.full-b.length<=(a.rows.filter λg=>bz (g∉b)).length;have k:∀{c},c∈a.rows.take a.full->c∈a.rows:=λe=>uT e;have f:b.Nodup/\∀c∈b,c∈a.rows:=by
   rcases h with rfl|⟨c,rfl,e⟩|⟨c,m,rfl,e,j,i⟩
   ·grind
   ·grind
   grind
  have:=FA d.nd f.1 f.2;have:=d.full;omega
theorem uv {b:aZ} (d:b.choose=Y f) (e:0<f.length):aZ.run (a+1) b=if(b.de f).fin then(aZ.run a (b.elim f)).map (λc=>(c.1,b.de f::c.2)) else bv:=by grind [aZ.run]
theorem Cu {b:aZ} (c:b.choose=bv):aZ.run (a+1) b=bv:=by rw[aZ.run,c]
theorem zk {b:aZ} (c:b.choose=Y []):aZ.run (a+1) b=Y (b,[]):=by rw[aZ.run,c]
def Ak {a:aZ} (b:a.choose=Y f):uK (a.rows.take a.full) f:=Ip (λd c=>c) b
structure Vo (uE:aZ) (n:X) (pv0:bp hC) (y:aZ) (ps:bp aN) (m:X):Prop where
 w:k1 y
 len:y.rows.length<=1000
 lt:y.full<m
 pl:ps.length+y.full<=uE.full
 run:aZ.run n uE=(aZ.run m y).map λq=>(q.1,ps++q.2)
theorem aft {g:aZ} (A:k1 g) (L:g.rows.length<=1000) (N:g.full<a) (l:c3) (j:bp eI) {pv0:bp hC} (a4:pv0.length<=1000000):ah (loop (σ:=(bD×c3×bp eI×bp hC×eI×bw)) (ρ:=(bD×c3×bp eI×bp hC×eI×bw)) (λ(r,u,p,s,m,_)=>
 bif !r then
 (Bi (m,())).bind λ(F,T,_)=>
 bE (α:=(bD×c3×bp eI×bp hC×eI×bw)) (bif !T then
 Y (bt,u,p,s,m,()) else
 Y (r,u,p,s,m,())) λ(B,v,q,t,n,_)=>
  bif ar F==0 then
 Y (.inr (B,v,q,t,n,())) else
 (yp (n,F,())).bind λ(H,I,U,_)=>
 bE (α:=(bD×c3×bp eI×bp hC×eI×eI×hC×bw)) (bif !U then
 Y (bt,v,q,t,n,H,I,()) else
 Y (B,v,q,t,n,H,I,())) λ(S,ad,R,D,_,am,C,_)=>
 (cI (D.length+([C]).length)).bind λ_=>
 Y (.inl (S,ad,R,(D++[C]),am,())) else
 Y (.inr (r,u,p,s,m,()))) (br,l,j,pv0,gq g,())) λe=>
  (∃b d,aZ.run a g=Y (b,d)/\e=(br,l,j,pv0++d.map jK,gq b,())/\k1 b)\/(aZ.run a g=bv/\e.1=bt):=by
 refine als (λe=>(∃b d k,e=(br,l,j,pv0++d.map jK,gq b,())/\Vo g a pv0 b d k)\/(aZ.run a g=bv/\e.1=bt)) (λe=>if e.1=bt then 0 else e.2.2.2.2.1.2.1.toNat+1) (.inl ⟨g,[],a,ac,A,L,N,ac,ac⟩) ?_;rintro e (⟨b,d,k,rfl,c⟩|⟨an,x⟩)
 rotate_left
 ·obtain⟨ci,cv,lf,co,c1,_⟩:=e;dsimp only at x;subst x;dsimp only;rw[aP af];grind [bu]
 dsimp only;rw[aS af];have a3:=c.lt;have bl:=c.pl;have bx:=A.full;obtain⟨k,rfl⟩:∃Q,k=Q+1:=⟨k-1,aa⟩;refine bF (aeQ c.w.okd c.len c.w.nd c.w.full) ?_;intro cs O;rcases O.use c.w.full with⟨rfl,h⟩|⟨rfl,h⟩|⟨ce,f,rfl,z,M,a0,h⟩
 ·refine bu.2 (.inr ⟨?_,bq⟩);rw[c.run,Cu h];rfl
 ·refine bu.2 (.inl ⟨b,d,?_,bq,c.w⟩);rw[c.run,zk h];simp
 dsimp only;have ap:=z.len;refine bC (y:=(br,l,j,pv0++d.map jK,gq b,())) af ?_;dsimp only;rw[aP (by rw[gp,aD (by grind [a7,fX])])];refine bF (ae7 c.w.okd c.len c.w.nd z c.w.full M) ?_;rintro⟨E,G,V,_⟩ (⟨o,i⟩|⟨o,i⟩)
 ·have ax:E=gq (b.elim f):=b4 (·.1) i;have J:G=jK (b.de f):=b4 (·.2.1) i;have K:V=bt:=b4 (·.2.2.1) i;subst ax J K;dsimp only;refine bC (y:=(br,l,j,pv0++d.map jK,gq b,gq (b.elim f),jK (b.de f),())) af ?_;dsimp only;have P:=c.w.full;rw[c9 ae,bM];have av:(b.elim f).full=b.full-f.length:=rfl;refine bu.2 ⟨.inl ⟨b.elim f,d++[b.de f],k,ac,c.w.elim (Ak h),cu (alB _ _) c.len,aa,ae,?_⟩,?_⟩
  ·rw[c.run,uv h aa,aB o,Option.map_map];congr 1;grind
  show(if br=bt then 0 else((b.full-f.length:X):Z).toNat+1)<(if br=bt then 0 else((b.full:X):Z).toNat+1);grind
 dsimp only at i;subst i;dsimp only;refine bC (y:=(bt,l,j,pv0++d.map jK,gq b,E,G,())) af ?_;dsimp only;have P:=c.w.full;rw[c9 ae,bM];refine bu.2 ⟨.inr ⟨?_,bq⟩,?_⟩
 ·rw[c.run,uv h aa,aA o];rfl
 grind
theorem uK.props (b:uK l f):f.Nodup/\∀a∈f,a∈l:=by
 rcases b with rfl|⟨a,rfl,c⟩|⟨a,g,rfl,c,e,d⟩
 ·grind
 ·grind
 grind
def X6 (b:∀e∈f,e∉l):(f.filter λd=>bz (d∉l))=f:=
 oD.2 λa c=>alc (b a c)
theorem k1.Xv {a:aZ} (e:k1 a) (i:uK (a.rows.take a.full) f):(a.elim f).rows.take (a.elim f).full=((a.rows.take a.full).filter λb=>bz (b∉f))/\(a.elim f).rows.drop (a.elim f).full=a.rows.drop a.full:=by obtain⟨l,g⟩:=i.props;have c:=e.nd;rw[<-jF a.full a.rows,j3] at c;have k:=FA c.1 l g;have j:=e.full;rw[gu,h5 j] at k;have ax:(a.elim f).full=((a.rows.take a.full).filter λb=>bz (b∉f)).length:=(by show a.full-f.length=_;omega);have o:(a.elim f).rows=((a.rows.take a.full).filter λb=>bz (b∉f))++a.rows.drop a.full:=(by show(a.rows.filter λb=>bz (b∉f))=_;have h:(a.rows.drop a.full).filter (λb=>bz (b∉f))=a.rows.drop a.full:=X6 λd m n=>c.2.2 d (g d n) d m bq;exact(b4 (am6 λb=>bz (b∉f)) (jF a.full a.rows).symm).trans ((qb ..).trans (by rw[h])));grind
theorem ad5 (d:l.Nodup) (c:f.Nodup) (e:∀b∈f,b∈l):(f++l.filter λa=>bz (a∉f)).Perm l:=by grind
structure sQ (S:ak6) (q:aN):Prop where
 nd:q.rows.Nodup
 sub:∀i∈q.rows,i∈S
 len:q.l.length=q.aQ.length
 at1:q.aQ.length=1\/q.aQ.length=2
 dl:q.d.length=2*q.aQ.length-1
 fin:q.fin
def k1.Sp {a:aZ} (h:k1 a) (c:uK (a.rows.take a.full) f) (e:0<f.length) (j:(a.de f).fin) {S:ak6} (i:∀d∈a.rows,d∈S):sQ S (a.de f) where
 nd:=h.nd.sublist xj
 sub:=λd k=>i d (h4.1 k).1
 len:=by rcases c with rfl|⟨b,rfl,_⟩|⟨b,g,rfl,_⟩<;>rfl
 at1:=by
  rcases c with rfl|⟨b,rfl,_⟩|⟨b,g,rfl,_⟩
  ·cases e
  ·exact .inl bq
  exact .inr bq
 dl:=by
  rcases c with rfl|⟨b,rfl,_⟩|⟨b,g,rfl,_⟩
  ·cases e
  ·rfl
  rfl
 fin:=j
structure HM (x y:aZ) (ps:bp aN):Prop where
 w:k1 y
 rest:y.rows.drop y.full=x.rows.drop x.full
 perm:(ps.flatMap aN.aQ++y.rows.take y.full).Perm (x.rows.take x.full)
 de:∀q∈ps,sQ x.rows q
 sub:∀i∈y.rows,i∈x.rows
 done:y.choose=Y []
theorem Tc:∀{n:X} {a m:aZ} {k:bp aN},k1 a->a.full<n->aZ.run n a=Y (m,k)->HM a m k
 |0,a,m,k,_,v,_=>by omega
 |n+1,a,m,k,g,v,d=>by
  match hc:a.choose with
  |none=>grind [Cu]
  |some []=>
   rw[zk hc] at d;cases d;exact⟨g,bq,anp _,λl f=>(by cases f),λb c=>c,hc⟩
  |some (
   j::h)=>
   rw[uv hc ac] at d;split at d
   case isFalse=>cases d
   rename_i u;have i:=Ak hc;obtain⟨x,q⟩:=i.props;cases p:aZ.run n (a.elim (j::h)) with
   |none=>grind
   |some l=>
    obtain⟨s,y⟩:=l;rw[p] at d;cases d;have z:0<a.full:=(by have:=List.length_pos_of_mem (q j ac);grind);have e:=Tc (g.elim i) (aa:a.full-(h.length+1)<n) p;obtain⟨ax,t⟩:=g.Xv i;have r:∀b∈(a.elim (j::h)).rows,b∈a.rows:=λb c=>(h4.1 c).1;refine⟨e.w,e.rest.trans t,?_,?_,λb c=>r b (e.sub b c),e.done⟩
    ·have o:=e.perm;rw[ax] at o;show((j::h)++y.flatMap aN.aQ++s.rows.take s.full).Perm _;rw[jd];exact(anO _ o).trans (ad5 (g.nd.sublist (ano ..)) x q)
    intro l f;rcases gn.1 f with rfl|f
    ·exact g.Sp i ac u λb c=>c
    have:=e.de l f;exact{this with sub:=λb c=>r b (this.sub b c)}
theorem WG {c:aZ} (i:c.full=c.rows.length):∀{L:ak6},(∀p∈L,p∈c.rows)->c.gR L=Y []->L=[]
 |[],_,_=>rfl
 |p::L,k,d=>by
  exfalso;rw[aZ.gR] at d;split at d
  ·cases d
  split at d
  ·cases d
  split at d
  ·cases d
  rename_i f h;have m:f∈c.rows.take c.full:=by
   rw[i,gC];have:∀{l:ak6} {a:Z×ak2},(∀b,a.2=Y b->b∈c.rows)->(∀b∈l,b∈c.rows)->∀b,(fa (λb=>c.av b p) p l a).2=Y b->b∈c.rows:=by
    intro l
    induction l with
    |nil=>intro a g _ b e;exact g b e
    |cons j l n=>
     grind [fa]
   exact this (l:=c.rows) (a:=(0,bv)) ac (λb e=>e) f h
  grind
theorem HM.whole {b a:aZ} {h:bp aN} (c:HM b a h) (j:k1 b) (g:b.full=b.rows.length):a.rows=[]/\a.full=0:=by have d:a.rows.drop a.full=[]:=(by rw[c.rest,g,List.drop_length]);have e:a.full=a.rows.length:=(by have:=anE.1 d;have:=c.w.full;omega);have i:=WG e (L:=a.rows.take a.full) (λk f=>uT f) c.done;grind
theorem YV (j:c.length<=1000000) (g:c[a]?=Y d) (k:∀b,b<a->c[b]?≠Y d):AO (c,d,())=Y ((a:Z),()):=by
 obtain⟨l,i⟩:=alT.1 g;unfold AO;refine bQ.1 ?_;dsimp only;refine bF (P:=λb=>b=.inr ((a:Z),())) ?_ (by grind [bu]);refine bP (a+1) (λe h=>e<=a/\h=((e:Z),())) ⟨Nat.zero_le _,bq⟩ ?_ ?_
 ·rintro e _ m ⟨n,rfl⟩;dsimp only;rw[aS (aI (ae:(e:Z)<ar c)),a9 aa];refine bC (y:=c[e]'(by omega)) (eP aa) ?_
  rw[gp,cW];refine alv (λf=>?_) (λf=>?_)
  ·refine bu.2 ?_;rcases cY e a with b|b
   ·grind
   grind
  grind [bu,cq]
 omega
section
def gG (l:bp eE) (t:X):X:=bk l (t+1)-bk l t
def h2 (l:bp eE) (t:X):X:=(g6 l (t:Z)).length
def j0 (l:bp eE) (t a:X):X:=((g6 l (t:Z)).getD a 0).toNat
def gH (l:bp eE) (t:X):Z:=((l[t]?).map λ(a:eE)=>a.2.2.2.1).getD 0
def FU (l:bp eE) (t b:X):Prop:=∃a,gG l t<=a/\a<h2 l t/\j0 l t a=b
structure iW (n:X) (l:bp eE) (t:X):Prop where
 lt:t<l.length
 g:l[t]?=Y ((bk l t:Z),(bk l (t+1):Z),g6 l (t:Z),gH l t,())
 Dx:bk l t<bk l (t+1)
 xR:bk l (t+1)<=n
 QY:gG l t<=h2 l t
 C9:h2 l t<=n
 get:∀i,i<h2 l t->(g6 l (t:Z))[i]?=Y ((j0 l t i:X):Z)
 ro:∀i,i<gG l t->j0 l t i=bk l t+i
 GR:∀i,gG l t<=i->i<h2 l t->bk l (t+1)<=j0 l t i
 Cp:∀i,i<h2 l t->j0 l t i<n
 aeJ:∀i j,i<j->j<h2 l t->j0 l t i<j0 l t j
theorem iW.of {G:akW} {l:bp eE} {n t:X} (k:gU G l) (z:G.length=n) (c:t<l.length):iW n l t:=by
 obtain⟨j,m,A,_⟩:=k;obtain⟨v,w,h,x⟩:=(j.1 t c).at c;have e:=m t c;have g:g6 l (t:Z)=l[t].2.2.1:=us c;have B:=e.asc aa aa;have r:(l[t].2.1-l[t].1).toNat=gG l t:=(by grind [gG]);have q:gG l t<=h2 l t:=(by unfold h2;rw[g,<-r];exact e.1);have o:∀a,(b:a<l[t].2.2.1.length)->(a<gG l t->l[t].2.2.1[a]=(bk l t:Z)+a)/\(gG l t<=a->(bk l (t+1):Z)<=l[t].2.2.1[a]/\l[t].2.2.1[a]<(n:Z)):=λa b=>(by have f:=e.2 a (dj _) b b;omega);have F:∀a,(b:a<l[t].2.2.1.length)->0<=l[t].2.2.1[a]/\l[t].2.2.1[a]<(n:Z):=λa b=>(by obtain⟨f,i⟩:=o a b;omega);have p:∀a,a<h2 l t->(g6 l (t:Z))[a]?=Y ((j0 l t a:X):Z):=λa b=>(by grind [bV,j0,h2]);have H:∀a,(b:a<l[t].2.2.1.length)->((j0 l t a:X):Z)=l[t].2.2.1[a]:=λa b=>(by grind [al6,bV,h2]);have E:∀a,a<h2 l t->a<l[t].2.2.1.length:=λa b=>ae;have s:∀a d,a<d->d<h2 l t->j0 l t a<j0 l t d:=λa d C D=>(by grind [ala]);have u:∀a,a<h2 l t->j0 l t a<n:=λa b=>ae;refine⟨c,?_,h,aa,q,?_,p,λa b=>?_,λa f i=>?_,u,s⟩
 ·rw[bh c,g];have y:gH l t=l[t].2.2.2.1:=(by simp_all [bh,gH]);grind
 ·have:=KI ((bK (h2 l t)).map (j0 l t)) n ?_ ?_
  ·simp_all
  ·rw[oG];refine sH ?_ List.pairwise_lt_range;grind
  simp_all
 ·grind
 grind
section
variable {n:X} {l:bp eE} {t:X}
theorem iW.own (a:iW n l t):bk l t+gG l t=bk l (t+1):=by have:=a.Dx;grind [gG]
def iW.pos (d:iW n l t) (g:(a:Z)∈g6 l (t:Z)):∃b,b<h2 l t/\j0 l t b=a:=by obtain⟨b,c,f⟩:=hV.1 g;have e:=d.get b c;rw[bh c,f] at e;exact⟨b,c,ae⟩
end
section
variable {G:akW} {l:bp eE} {n:X}
theorem Ww (d:gU G l) (g:b<=a) (h:a<=l.length):bk l b<=bk l a:=by
 induction a with
 |zero=>grind
 |succ a e=>
  rcases cY a b with c|c
  ·grind
  have:=e c aa;obtain⟨_,_,f,_⟩:=(d.1.1 a aa).at aa;omega
theorem GH (b:gU G l) (s:G.length=n) {t:X} (d:t<l.length):(gH l t=-1/\∀e,¬FU l t e)\/∃a:X,gH l t=(a:Z)/\t<a/\a<l.length/\∀e,FU l t e->(e:Z)∈g6 l (a:Z):=by
 have f:=iW.of b s d;have k:gH l t=l[t].2.2.2.1:=(by grind [bV,gH]);have v:g6 l (t:Z)=l[t].2.2.1:=us d;obtain⟨w,x,y,z⟩:=(b.1.1 t d).at d;have u:(l[t].2.1-l[t].1).toNat=gG l t:=(by grind [gG]);have C:=b.parent d;rcases b.2.2.1 t d with⟨h,c⟩|⟨h,c,A⟩
 ·refine .inl ⟨by rw[k,c],?_⟩;rintro e ⟨j,aE,p,_⟩;grind [h2]
 right;simp only[u] at h c;have i:gG l t<h2 l t:=(by grind [h2]);have g:=f.get (gG l t) i;rw[v,bh h] at g;have g:=gy g;rw[g,gg] at c;have E:=f.Cp _ i;have D:=f.GR _ (bg _) i;obtain⟨a,m,q,r⟩:=xS b.1 (aa:j0 l t (gG l t)<G.length);rw[xf.last b.1 (⟨m,q,r⟩:xf l _ a)] at c;refine⟨a,by rw[k,c],?_,m,?_⟩
 ·rcases cY t a with o|o
  ·exact o
  have:=Ww b (aa:a+1<=t+1) aa;omega
 rintro e ⟨j,aE,p,rfl⟩;have B:j<l[t].2.2.1.length:=(by grind [h2]);have F:=f.get j p;grind
end
end
section
def FY:X->X
 |0=>0
 |t+1=>FY t+(FY t+5)
def eJ (l:bp eE) (t b:X):ak6:=(bK t).filter λa=>bz (gH l a=(b:Z))
section
variable {A:X->X->ak1} {n:X} {l:bp eE} {B:X->X->X->Z} {t:X}
end
end
section
def Pe {e:Type} {l:bp i} {b c:i->bp e} (d:∀a∈l,b a=c a):l.flatMap b=l.flatMap c:=by rw[aqp,aqp,iL d]
def wE:cN (Y 0):=λb a=>by cases a;exact(by decide:aV 0<=131072)
def hx:aZ:=⟨[],0,λ_ _=>Y 0⟩
def aZ.plus (c d:aZ):aZ:=⟨c.rows,c.full,λa b=>if a∈d.rows/\b∈d.rows then cQ (c.s a b) (d.s a b) else c.s a b⟩
def lp (l:bp eE) (a:X):ak6:=(alb (gG l a) (h2 l a-gG l a)).map (j0 l a)
def kb (l:bp eE) (b:X->aZ) (a:X):ak6:=((eJ l a a).flatMap λc=>(b c).rows.take (b c).full)++alb (bk l a) (gG l a)
def iN (d:X->X->ak1) (l:bp eE) (c a b:X):ak1:=if bk l c<=min a b/\min a b<bk l (c+1) then d a b else Y 0
def kw (c:X->X->ak1) (l:bp eE) (b:X->aZ) (a:X):aZ:=⟨kb l b a++lp l a,(kb l b a).length,iN c l a⟩
def h6 (c:X->X->ak1) (l:bp eE) (b:X->aZ) (a:X):aZ:=(eJ l a a).foldl (λe d=>e.plus (b d)) (kw c l b a)
def Ca (b:X->aZ):∀(d:ak6) (a:aZ),(d.foldl (λa c=>a.plus (b c)) a).rows=a.rows/\(d.foldl (λa c=>a.plus (b c)) a).full=a.full
 |[],_=>⟨bq,bq⟩
 |c::d,a=>Ca b d (a.plus (b c))
theorem GK (e:X->aZ):∀(f:ak6) (a:aZ),(∀b d,cN (a.s b d))->∀b d,cN ((f.foldl (λa c=>a.plus (e c)) a).s b d)
 |[],_,g=>g
 |c::f,a,g=>GK e f (a.plus (e c)) λb d=>by show cN (if _ then _ else _);grind [k7]
def hO (b:X->X->ak1) (l:bp eE):X->bA (bp aZ×bp aN)
 |0=>Y ([],[])
 |t+1=>(hO b l t).bind λa=>(aZ.run ((h6 b l (λc=>a.1.getD c hx) t).full+1) (h6 b l (λc=>a.1.getD c hx) t)).map λd=>(a.1++[d.1],a.2++d.2)
def qs (l:bp eE) (b:X):ak6:=(bK b).filter λa=>bz (gH l a=-1\/(b:Z)<=gH l a)
def kS (a:X->aZ) (b:X):ak6:=(a b).rows.take (a b).full
structure kr (l:bp eE) (n t:X) (L:X->aZ) (ps:bp aN):Prop where
 w:∀c,c<t->k1 (L c)
 rest:∀c,c<t->(L c).rows.drop (L c).full=lp l c
 perm:(ps.flatMap aN.aQ++(qs l t).flatMap (kS L)).Perm (bK (bk l t))
 root:∀c,c<t->gH l c=-1->(L c).rows=[]/\(L c).full=0
 de:∀q∈ps,sQ (bK n) q
 Cp:∀c,c<t->∀i∈(L c).rows,i<n
section
variable {G:akW} {l:bp eE} {n:X}
theorem yV:b∈lp l a↔FU l a b:=by unfold lp FU;grind
theorem BO:a∈eJ l h b↔a<h/\gH l a=(b:Z):=by unfold eJ;grind
theorem VL (a:X):(eJ l a a++(bK a).filter λb=>bz (gH l b=-1\/(a:Z)<gH l b)).Perm (qs l a):=by have e:=List.filter_append_perm (λb=>bz (gH l b=(a:Z))) (qs l a);have ax:(qs l a).filter (λb=>bz (gH l b=(a:Z)))=eJ l a a:=(by unfold qs eJ;rw[C3];refine qc λb _=>?_;grind);have d:(qs l a).filter (λc=>!bz (gH l c=(a:Z)))=(bK a).filter λb=>bz (gH l b=-1\/(a:Z)<gH l b):=(by unfold qs;rw[C3];refine qc λb _=>?_;rw[xa];simp only[cL,uG,anU,alD];omega);grind
theorem VK (c:gH l a=-1\/(a:Z)<gH l a):qs l (a+1)=((bK a).filter λb=>bz (gH l b=-1\/(a:Z)<gH l b))++[a]:=by grind [alu,amA,ak9,alc,decide,gH,qs]
def afu (e:iW n l a):(lp l a).Nodup:=by unfold lp aod;rw[oG];have d:=List.pairwise_lt_range' (s:=gG l a) (n:=h2 l a-gG l a);refine(sH ?_ d);intro b c f h g;rw[List.mem_range'_1] at f h;have:=e.aeJ b c g aa;omega
theorem kr.Ad {b:X->aZ} {d:bp aN} (h:kr l n a b d) (f:iW n l a):((d.flatMap aN.aQ++(((bK a).filter λc=>bz (gH l c=-1\/(a:Z)<gH l c)).flatMap (kS b)))++kb l b a).Perm (bK (bk l (a+1))):=by
 have i:=h.perm;have e:=(VL (l:=l) a).flatMap_right (kS b);rw[mn] at e;have g:bK (bk l (a+1))=bK (bk l a)++alb (bk l a) (gG l a):=(by have:=f.own;rw[apd,apd,<-f.own];have:=List.range'_append (s:=0) (m:=bk l a) (n:=gG l a) (step:=1);grind);rw[g];have j:(d.flatMap aN.aQ++(((bK a).filter λc=>bz (gH l c=-1\/(a:Z)<gH l c)).flatMap (kS b)++(eJ l a a).flatMap (kS b))).Perm (bK (bk l a)):=
  (anO _ (List.perm_append_comm.trans e)).trans i
 unfold kb;rw[<-jd];refine List.Perm.append_right _ ?_;rw[jd];exact j
theorem kr.ve {c:X->X->ak1} (w:∀d g,cN (c d g)) {b:X->aZ} {r:bp aN} (k:kr l n a b r) (h:iW n l a):k1 (h6 c l b a):=by
 have i:=k.Ad h;have p:=i.nodup_iff.2 uU;obtain⟨ax,j⟩:=Ca b (eJ l a a) (kw c l b a);refine⟨λd _ g _=>GK b _ _ (λd g=>?_) d g,?_,?_⟩
 ·show cN (if _ then _ else _);split
  ·grind
  exact wE
 ·show((eJ l a a).foldl (λf e=>f.plus (b e)) (kw c l b a)).rows.Nodup;rw[ax];refine j3.2 ⟨(j3.1 p).2.1,afu h,λs m t o u=>?_⟩;have v:=hN.1 (i.mem_iff.1 (lw _ m));obtain⟨d,i1,q,x⟩:=yV.1 o;have:=h.GR d i1 q;omega
 show((eJ l a a).foldl (λf e=>f.plus (b e)) (kw c l b a)).full<=((eJ l a a).foldl (λf e=>f.plus (b e)) (kw c l b a)).rows.length;rw[ax,j];show(kb l b a).length<=(kb l b a++lp l a).length;grind
def xH (c:X->X->ak1) (b:X->aZ) (a:X):(h6 c l b a).rows=kb l b a++lp l a/\(h6 c l b a).full=(kb l b a).length:=Ca b (eJ l a a) (kw c l b a)
def kr.Ae (f:X->X->ak1) {c:X->aZ} {j:bp aN} (h:kr l n b c j) (d:iW n l b) (g:a∈(h6 f l c b).rows):a<n:=by
 rw[(xH f c b).1,hM] at g;have:=d.xR;rcases g with e|e
 ·have k:=hN.1 ((h.Ad d).mem_iff.1 (lw _ e));omega
 obtain⟨a,i1,i,m⟩:=yV.1 e;have:=d.Cp a i;omega
theorem kr.Du (b:X->X->ak1) (g:∀f i,cN (b f i)) {c:X->aZ} {j:bp aN} (d:kr l n a c j) (e:iW n l a):(h6 b l c a).rows.length<=n:=by have:=(d.ve g e).nd.length_le_of_subset (l₂:=bK n) λf h=>hN.2 (d.Ae b e h);grind
theorem kr.child (g:X->X->ak1) (k:gU G l) (j:G.length=n) (s:a<l.length) {c:X->aZ} {v:bp aN} (q:kr l n a c v) (r:b∈eJ l a a) (m:h∈(c b).rows):h∈(h6 g l c a).rows:=by
 have i:=iW.of k j s;obtain⟨p,x⟩:=BO.1 r;rw[(xH g c a).1];unfold kb;rw[<-jF (c b).full (c b).rows,hM] at m;rcases m with d|d
 ·grind
 rw[q.rest b p] at d;have d:=yV.1 d;rcases GH k j (aa:b<l.length) with⟨y,_⟩|⟨o,z,A,B,w⟩
 ·omega
 obtain rfl:o=a:=aa;obtain⟨f,t,u⟩:=i.pos (w h d);rcases cY f (gG l o) with e|e
 ·have:=i.ro f e;grind
 exact lw _ (yV.2 ⟨f,e,t,u⟩)
theorem qH {h:X->X->ak1} (C:∀k M,cN (h k M)) (y:gU G l) (x:G.length=n):∀{t:X},t<=l.length->∀{o:bp aZ} {u:bp aN},hO h l t=Y (o,u)->o.length=t/\kr l n t (λa=>o.getD a hx) u
 |0,_,o,u,e=>by rw[hO] at e;cases e;refine⟨bq,⟨λa g=>by omega,λa g=>by omega,?_,λa g=>by omega,λb A=>(by cases A),λa g=>by omega⟩⟩;show List.Perm [] (bK (bk l 0));have:bk l 0=0:=rfl;grind
 |t+1,R,o,u,e=>by
  rw[hO] at e;cases D:hO h l t with
  |none=>grind
  |some N=>
   obtain⟨c,S⟩:=N;obtain⟨i1,f⟩:=qH C y x aa D;have p:=iW.of y x (aa:t<l.length);rw[D] at e;dsimp only[bM] at e;have z:=f.ve C p;generalize s:h6 h l (λa=>c.getD a hx) t=m at e;rw[s] at z;cases E:aZ.run (m.full+1) m with
   |none=>grind
   |some b=>
    obtain⟨d,T⟩:=b;rw[E] at e;cases e;have j:=Tc z (pq _) E;have L:=(xH h (λa=>c.getD a hx) t (l:=l));rw[s] at L;have K:m.rows.take m.full=kb l (λa=>c.getD a hx) t:=ae;have H:m.rows.drop m.full=lp l t:=ae;have q:∀a,a<t->(c++[d]).getD a hx=c.getD a hx:=λa g=>(by rw[k2,k2,rm aa]);have r:(c++[d]).getD t hx=d:=ae;have Q:=GH y x (aa:t<l.length);refine⟨ae,⟨?_,?_,?_,?_,?_,?_⟩⟩
    ·intro a g;dsimp only;rcases cq a t with b|b
     ·rw[q a b];exact f.w a b
     obtain rfl:a=t:=aa;rw[r];exact j.w
    ·intro a g;dsimp only;rcases cq a t with b|b
     ·rw[q a b];exact f.rest a b
     obtain rfl:a=t:=aa;rw[r,j.rest,H]
    ·rw[VK ae,mn,mn];have ax:((bK t).filter λa=>bz (gH l a=-1\/(t:Z)<gH l a)).flatMap (kS λa=>(c++[d]).getD a hx)=((bK t).filter λa=>bz (gH l a=-1\/(t:Z)<gH l a)).flatMap (kS λa=>c.getD a hx):=by
      refine Pe λa g=>?_;show((c++[d]).getD a hx).rows.take ((c++[d]).getD a hx).full=(c.getD a hx).rows.take (c.getD a hx).full;grind
     have F:aoe (kS λa=>(c++[d]).getD a hx) [t]=d.rows.take d.full:=(by show(((c++[d]).getD t hx).rows.take ((c++[d]).getD t hx).full)++[]=_;grind);rw[ax,F];have I:=j.perm;rw[K] at I;refine List.Perm.trans ?_ (f.Ad p);grind
    ·intro a g J;dsimp only;rcases cq a t with b|b
     ·rw[q a b];exact f.root a b J
     obtain rfl:a=t:=aa;rw[r];refine j.whole z ?_;have:lp l a=[]:=List.eq_nil_iff_forall_not_mem.2 λO P=>(by grind [yV]);grind
    ·intro b A;rcases hM.1 A with v|v
     ·exact f.de b v
     have B:=j.de b v;exact{B with sub:=λk i=>hN.2 (f.Ae h p (by rw[s];exact B.sub k i))}
    intro a g k i;dsimp only at i;rcases cq a t with b|b
    ·rw[q a b] at i;exact f.Cp a b k i
    obtain rfl:a=t:=aa;rw[r] at i;exact f.Ae h p (by rw[s];exact j.sub k i)
theorem kr.fl {b:X->aZ} {h:bp aN} (d:kr l n a b h) {c:X} (e:c<a):(b c).full<=n/\(b c).rows.length<=n:=by have i:=(d.w c e).nd.length_le_of_subset (l₂:=bK n) λg f=>hN.2 (d.Cp c e g f);have j:=(d.w c e).full;grind
def kr.all {b:X->aZ} {h:bp aN} (g:gU G l) (f:G.length=n) (d:kr l n l.length b h):(h.flatMap aN.aQ).Perm (bK n):=by
 have e:=d.perm;have j:(qs l l.length).flatMap (kS b)=[]:=List.flatMap_eq_nil_iff.2 λi k=>by
  obtain⟨a,c⟩:=h4.1 k;have a:=hN.1 a;have c:=amF c;rcases GH g f a with⟨m,_⟩|⟨o,p,_,q,_⟩
  ·unfold kS;rw[(d.root i a m).1,List.take_nil]
  omega
 rw[j,oA,g.1.2,f] at e;exact e
end
def FG {G:akW} {l:bp eE} (c:gU G l):l.length<=G.length:=by
 have:∀a,a<=l.length->a<=bk l a:=by
  intro a
  induction a with
  |zero=>omega
  |succ a d=>
   intro e;have:=d aa;have:=(iW.of c bq (aa:a<l.length)).Dx;omega
 have b:=this l.length (bg _);rw[c.1.2] at b;exact b
end
theorem OF (b:cN x):DN (aw x,d,())=Y (lS x d,()):=by
 unfold DN;refine aj (Fl b) ?_;dsimp only;rw[rW];cases x with
 |none=>rfl
 |some a=>
  have c:=b a bq;have i:=jZ c;have f:=kq c;refine aj (oX b) ?_;dsimp only;show(bif gI a==0 then _ else _)=_;rw[jA];unfold lS ze;by_cases e:a=0
  ·grind
  rw[aD e];simp only;rw[aA e,bR];have h:0<(cR a).natAbs:=(by grind [jW]);refine aj (y:=(pJ (bz (a<0)) (cR a).natAbs (hZ a) br,())) ?_ ?_
  ·unfold IB;rw[g5];refine aj (z9 (jU aa)) ?_;simp_all [aA,yZ,pJ,dc]
  have g:dc a=hZ a:=(by unfold dc;omega);rw[g] at f;exact aj (S0 aa h aa aa) rfl
theorem VQ (a:eH d):Dn bG d 9223372036854775808=d %9223372036854775808:=by obtain⟨b,rfl⟩:=gB a.1;have c:b<18446744073709551616:=(by have:=a.2;omega);unfold Dn;rw[show bG.bits=64 from rfl,BitVec.toNat_and,Wv c,(ab:(~~~cn 64 9223372036854775808).toNat=2^63-1),aoR];grind [CQ,amm]
theorem O6 (a:eH d) (e:cH d≠2047):eH (d %9223372036854775808)/\a6 (d %9223372036854775808)=nC (a6 d):=by have g:=a.1;have h:=a.2;have ax:cH (d %9223372036854775808)=cH d:=(by grind [cH]);have f:gS (d %9223372036854775808)=gS d:=(by grind [gS]);refine⟨⟨aa,aa⟩,?_⟩;rw[uh aa,uh e];have b:pL (d %9223372036854775808)=pL d:=(by grind [pL]);have i:=yz d;have c:oe (d %9223372036854775808)=((oe d).natAbs:Z):=(by unfold oe;omega);rw[b,c];show Y _=Y (((oe d*2^(pL d+65536).toNat).natAbs:X):Z);grind [na]
theorem Yd (b:eH d) (f:cH d≠2047):DO ([d],())=Y (br,()):=by
 unfold DO;refine bQ.1 ?_;dsimp only;refine bF (P:=λc=>c=.inl ()) ?_ (by grind [bu]);refine bP 1 (λa e=>e=((a:Z),())) rfl ?_ ?_
 ·rintro a _ g rfl;obtain rfl:a=0:=aa;dsimp only;rw[aS af];refine bC (y:=d) rfl (bC (Zh b) ?_);dsimp only;rw[aP (by
   rw[gp];refine aD ?_;unfold lK;omega)]
  exact bu.2 bq
 rintro _ rfl;dsimp only;rw[aP af];grind [bu]
theorem Jw (b:eH d) (a:cH d≠2047):x0 (d,())=Y (d %9223372036854775808,()):=by simp_all [bR,VQ,aj,Yd,x0]
section
def fk (R:ak6) (lf:ak5) (b:X):ak6:=((bK b).filter λa=>lf.getD a br).map λa=>R.getD a 0
theorem yM (R:ak6) (lf:ak5) (a:X):fk R lf (a+1)=if lf.getD a br=bt then fk R lf a++[R.getD a 0] else fk R lf a:=by unfold fk;rw[je,qb,qd,an9];grind
structure jC (R:ak6) (full:X) (lf:ak5) (M:bp (bp fV)) (x:aZ):Prop where
 ll:lf.length=R.length
 nd:R.Nodup
 sm:R.length<=1000
 fl:full<=R.length
 rows:x.rows=fk R lf R.length
 full:x.full=(fk R lf full).length
 okd:x.okd
 ent:∀i j,i<R.length->j<R.length->lf.getD i br=bt->lf.getD j br=bt->∃row,M[i]?=Y row/\row[j]?=Y (aw (x.s (R.getD i 0) (R.getD j 0)))
section
variable {R:ak6} {full:X} {lf:ak5} {M:bp (bp fV)} {x:aZ}
def cO (R:ak6) (full:X) (lf:ak5) (M:bp (bp fV)):df:=(be R,(full:Z),lf,M,())
theorem Kp (d:a<b) (c:lf.getD a br=bt):R.getD a 0∈fk R lf b:=e1.2 ⟨a,h4.2 ⟨hN.2 d,c⟩,bq⟩
theorem jC.mem (b:jC R full lf M x) (c:a<R.length) (d:lf.getD a br=bt):R.getD a 0∈x.rows:=by rw[b.rows];grind [Kp]
theorem jC.value (c:jC R full lf M x) (d:a<R.length) (e:b<R.length) (f:lf.getD a br=bt) (g:lf.getD b br=bt):tm (Y (cO R full lf M),(a:Z),(b:Z),())=Y (x.bn (R.getD a 0) (R.getD b 0),()):=by
 obtain⟨i,h,j⟩:=c.ent a b d e f g;unfold tm;refine aj (y:=cO R full lf M) rfl (aj (y:=i) ?_ (aj (y:=aw (x.s (R.getD a 0) (R.getD b 0))) ?_ (aj (OF (c.okd _ (c.mem d f) _ (c.mem e g))) rfl)))
 ·rw[fq];exact h
 grind [fq]
theorem jC.inj (a:jC R full lf M x) {i j:X} (b:i<R.length) (c:j<R.length):R.getD i 0=R.getD j 0↔i=j:=by rw[k2,bh b,k2,bh c];exact qg a.nd
theorem WK:bz (fo d k>0)=bz (k<d):=by rw[cy];grind [absurd,fo]
theorem jC.PA (i:jC R full lf M x) (H:a<R.length) (T:lf.getD a br=bt):ah (AK (Y (cO R full lf M),(a:Z),())) λr=>
  (x.fin (R.getD a 0)/\∃e:ak2,r=(aw (Y (x.fj (R.getD a 0)).1),qu e,0,())/\(∀c,e=Y c->c<R.length/\lf.getD c br=bt/\(x.fj (R.getD a 0)).2=Y (R.getD c 0))/\(e=bv->(x.fj (R.getD a 0)).2=bv))\/
  (¬x.fin (R.getD a 0)/\r.2.2.1=233):=by
 obtain⟨s,o⟩:∃s:X,s=65536:=⟨_,bq⟩;have F:ar (cO R full lf M).1=(R.length:Z):=(by rw[a7];exact b4 _ (fX _));have ap:=i.sm;have an:=i.ll;generalize B:R.getD a 0=d;unfold AK;refine bC (vS ab ab) ?_;have J:iv 0=Y 0:=rfl;rw[J];refine bC (y:=cO R full lf M) rfl ?_;refine bF (P:=λf=>(x.fin d/\∃(e:ak2) (g:cP),f=.inl (qu e,g,aw (Y (x.fj d).1),())/\(∀c,e=Y c->c<R.length/\lf.getD c br=bt/\(x.fj d).2=Y (R.getD c 0))/\(e=bv->(x.fj d).2=bv))\/(¬x.fin d/\∃j t,f=.inr (j,t,233,()))) ?_ ?_
 rotate_left
 ·grind [bu]
 refine bP R.length (λb f=>(∀h∈fk R lf b,cH (x.bn h d)≠2047)/\∃(e:ak2) (g:cP),f=(qu e,(b:Z),g,aw (Y (fa (λc=>x.av c d) d (fk R lf b) (0,bv)).1),())/\(∀c,e=Y c->c<R.length/\lf.getD c br=bt/\(fa (λc=>x.av c d) d (fk R lf b) (0,bv)).2=Y (R.getD c 0))/\(e=bv->(fa (λc=>x.av c d) d (fk R lf b) (0,bv)).2=bv)) ?_ ?_ ?_
 ·refine⟨by simp[fk],bv,_,bq,?_,λ_=>rfl⟩;grind
 rotate_left
 ·rintro _ ⟨q,e,g,rfl,n,k⟩;dsimp only;rw[F,aP (aD (aa:¬(R.length:Z)<(R.length:Z)))];rw[<-i.rows] at q n k|-;exact bu.2 (.inl ⟨q,e,g,bq,n,k⟩)
 rintro b _ u ⟨q,e,g,rfl,n,k⟩;dsimp only;rw[F,aS (aI (aa:(b:Z)<(R.length:Z))),a9 aa];have N:aq (cO R full lf M).2.2.1 (b:Z)=Y (lf.getD b br):=(by rw[fq];show lf[b]?=_;grind);have C:bf s 1074 1024 1 (Y (fa (λc=>x.av c d) d (fk R lf b) (0,bv)).1):=JR (λh E=>x.s3 o (q h E)) bf.zero;rw[yM];refine bF (P:=λf=>((∀h∈(if lf.getD b br=bt then fk R lf b++[R.getD b 0] else fk R lf b),cH (x.bn h d)≠2047)/\∃(e:ak2) (g:cP),f=.inl (qu e,g,aw (Y (fa (λc=>x.av c d) d (if lf.getD b br=bt then fk R lf b++[R.getD b 0] else fk R lf b) (0,bv)).1),())/\(∀c,e=Y c->c<R.length/\lf.getD c br=bt/\(fa (λc=>x.av c d) d (if lf.getD b br=bt then fk R lf b++[R.getD b 0] else fk R lf b) (0,bv)).2=Y (R.getD c 0))/\(e=bv->(fa (λc=>x.av c d) d (if lf.getD b br=bt then fk R lf b++[R.getD b 0] else fk R lf b) (0,bv)).2=bv))\/(¬x.fin d/\∃j t,f=.inr (.inr (.inr (j,t,233,()))))) ?_ ?_
 rotate_left
 ·grind [bu]
 refine bC (y:=cO R full lf M) rfl (bC N ?_);cases A:lf.getD b br with
 |false=>
  rw[aS af,aA ab];grind [bu]
 |true=>
 rw[aP af,b9 bq];have I:=i.value u H A T;rw[B] at I;have p:=x.lR (R.getD b 0) d;refine bC I (bC (FW p) ?_);dsimp only;by_cases f:cH (x.bn (R.getD b 0) d)=2047
 ·rw[aS ae];exact bu.2 (.inr ⟨λS=>S _ (i.mem u A) f,_,_,bq⟩)
 rw[aP ae];have L:∀h∈fk R lf b++[R.getD b 0],cH (x.bn h d)≠2047:=λh E=>ae;have O:fa (λc=>x.av c d) d (fk R lf b++[R.getD b 0]) (0,bv)=if R.getD b 0=d then fa (λc=>x.av c d) d (fk R lf b) (0,bv) else if(fa (λc=>x.av c d) d (fk R lf b) (0,bv)).2=bv\/(fa (λc=>x.av c d) d (fk R lf b) (0,bv)).1<x.av (R.getD b 0) d then(x.av (R.getD b 0) d,Y (R.getD b 0)) else fa (λc=>x.av c d) d (fk R lf b) (0,bv):=by rw[yD,fa,fa]
 rw[O];generalize fa (λc=>x.av c d) d (fk R lf b) (0,bv)=j at*;obtain⟨l,w⟩:=j;dsimp only at n k C|-;have D:R.getD b 0=d↔b=a:=(by rw[<-B];exact i.inj u H);by_cases z:b=a
 ·rw[aS ae,aB (D.2 z)];grind [bu]
 rw[aP ae,ck (mt D.1 z)];obtain⟨U,V⟩:=O6 p f;have ad:=x.H9 f;have K:=x.s3 o f;have G:ld (x.bn (R.getD b 0) d %9223372036854775808,())=Y (aw (Y (x.av (R.getD b 0) d)),()):=(by grind [qT]);refine bC (Jw p f) (bC G (bC (I9 (K.cT o ab ab) (C.cT o ab ab)) ?_));dsimp only;have Q:e=bv↔w=bv:=by
  constructor
  ·exact k
  intro am;cases e with
  |none=>rfl
  |some c=>
   grind
 refine bF (P:=λr=>r=(bz (w=bv\/l<x.av (R.getD b 0) d),g,aw (Y l),())) ?_ ?_
 ·rw[WK];by_cases m:l<x.av (R.getD b 0) d
  ·simp_all [aI,bu,aP]
  rw[aS ae];refine bu.2 ?_;have:bz (qu e<0)=bz (w=bv\/l<x.av (R.getD b 0) d):=by
   rw[cy];cases e with
   |none=>exact⟨λ_=>.inl (Q.1 bq),λ_=>by decide⟩
   |some c=>
    constructor
    ·intro v;have:((c:X):Z)<0:=v;omega
    grind
  grind
 rintro _ rfl;dsimp only;rw[cW];refine alv (λm=>?_) (λm=>?_)
 ·rw[aB m];refine bC (Jw p f) (bC G ?_);refine bu.2 (.inl ⟨L,Y b,g,bq,?_,λv=>by cases v⟩);grind
 rw[aA m];grind [bu]
end
end
section
theorem Kh (c:cN (Y d)) (e:cN (Y k)) (a:fB (64*d)) (b:fB (41*k)):x8 (aw (Y d),aw (Y k),())=Y (bz (41*k<=64*d),()):=by unfold x8;refine aj (vS ab ab) (aj (oW (tR _) c) (aj (vS ab ab) (aj (oW (tR _) e) ?_)));rw[Gi ab a,Gi ab b];refine aj (I9 a b) ?_;dsimp only;have:bz (fo (64*d) (41*k)>=0)=bz (41*k<=64*d):=(by rw[cy];grind [absurd,fo]);grind
section
variable {R:ak6} {full:X} {lf:ak5} {M:bp (bp fV)} {x:aZ}
def ng (R:ak6) (lf:ak5) (c b:X):ak6:=((alb c b).filter λa=>lf.getD a br).map λa=>R.getD a 0
theorem afJ (R:ak6) (lf:ak5) (a b:X):ng R lf a (b+1)=if lf.getD a br=bt then R.getD a 0::ng R lf (a+1) b else ng R lf (a+1) b:=by grind [List.range'_succ,ng]
theorem Kn (R:ak6) (lf:ak5) (a:X):∀d,∃b,fk R lf (a+d)=fk R lf a++b
 |0=>⟨[],ac⟩
 |d+1=>by obtain⟨b,c⟩:=Kn R lf a d;grind [alG,aoc,yM]
def jC.take (a:jC R full lf M x):x.rows.take x.full=fk R lf full:=by have:=a.fl;obtain⟨c,b⟩:=Kn R lf full (R.length-full);rw[a.rows,a.full,(aa:R.length=full+(R.length-full)),b,List.take_left'];rfl
theorem jC.Qu (a:jC R full lf M x) {k:X} (e:k<R.length) (f:lf.getD k br=bt):R.getD k 0∈x.rows.take x.full↔k<full:=by
 have:=a.fl;rw[a.take];constructor
 ·intro c;unfold fk at c;obtain⟨g,b,d⟩:=e1.1 c;have b:=hN.1 (h4.1 b).1;have:=(a.inj aa e).1 d;omega
 grind [Kp]
def jC.OA (h:jC R full lf M x) (d:a<R.length) (e:lf.getD a br=bt) (b:cH (x.bn (R.getD a 0) (R.getD a 0))≠2047):AH (Y (cO R full lf M),(a:Z),())=Y (aw (Y (x.av (R.getD a 0) (R.getD a 0))),()):=by have c:=x.lR (R.getD a 0) (R.getD a 0);obtain⟨f,g⟩:=O6 c b;unfold AH;refine aj (h.value d d e e) (aj (Jw c b) (aj (y:=(aw (Y (x.av (R.getD a 0) (R.getD a 0))),())) ?_ bq));rw[qT f,g,x.H9 b]
def Ht (x:aZ) (R:ak6) (full:X) (lf:ak5) (c:ak6) (d:ak7×Z×bw):Prop:=(d.2.1=233/\x.gR c=bv)\/∃b:ak6,d=(be b,0,())/\(∀a∈b,a<full/\lf.getD a br=bt)/\x.gR c=Y (b.map λa=>R.getD a 0)
theorem jC.choose (e:jC R full lf M x):ah (Ea (Y (cO R full lf M),())) λk=>Ht x R full lf (x.rows.take x.full) k:=by
 obtain⟨D,c⟩:∃D:X,D=65536:=⟨_,bq⟩;have d1:=e.sm;have dl:=e.fl;have ds:=e.ll;rw[e.take];have a0:fk R lf full=ng R lf 0 full:=(by unfold fk ng;rw[apd]);rw[a0];unfold Ea;refine bC (y:=cO R full lf M) rfl ?_;refine bF (P:=λd=>(d=.inl ()/\x.gR (ng R lf 0 full)=Y [])\/∃k,d=.inr k/\Ht x R full lf (ng R lf 0 full) k) ?_ ?_
 rotate_left
 ·rintro _ (⟨rfl,e⟩|⟨k,rfl,e⟩)
  ·exact bu.2 (.inr ⟨[],bq,ac,e⟩)
  grind [bu]
 refine bP full (λb cs=>cs=((b:Z),())/\x.gR (ng R lf 0 full)=x.gR (ng R lf b (full-b))) ⟨bq,bq⟩ ?_ ?_
 rotate_left
 ·rintro _ ⟨rfl,l⟩;dsimp only;rw[aP (aD (show¬(full:Z)<(cO R full lf M).2.1 from apa _))];refine bu.2 (.inl ⟨bq,?_⟩);rw[l,Nat.sub_self];rfl
 rintro b _ d0 ⟨rfl,l⟩;dsimp only;have z:b<R.length:=aa;rw[aS (aI (show(b:Z)<(cO R full lf M).2.1 by show(b:Z)<(full:Z);omega)),a9 aa];rw[(aa:full-b=full-(b+1)+1),afJ] at l;refine bF (P:=λd=>(d=.inl ()/\x.gR (ng R lf 0 full)=x.gR (ng R lf (b+1) (full-(b+1))))\/∃k,d=.inr (.inr (.inr k))/\Ht x R full lf (ng R lf 0 full) k) ?_ ?_
 rotate_left
 ·grind [bu]
 have bl:aq (cO R full lf M).2.2.1 (b:Z)=Y (lf.getD b br):=(by rw[fq];show lf[b]?=_;grind);refine bC (y:=cO R full lf M) rfl (bC bl ?_);cases o:lf.getD b br with
 |false=>
  rw[o,aA ab] at l;rw[aS af];grind [bu]
 |true=>
 rw[o,aB bq] at l;rw[aP af];refine bF (e.PA z o) ?_;have G:=e.mem z o;generalize F:R.getD b 0=a at*;rintro⟨am,an,ap,_⟩ (⟨j,cv,i,ci,co⟩|⟨j,i⟩)
 rotate_left
 ·dsimp only at i;subst i;dsimp only;rw[aS af];refine bu.2 (.inr ⟨_,bq,.inl ⟨bq,?_⟩⟩);rw[l,aZ.gR,b9 j]
 cases i;dsimp only;rw[aP af];have I:=e.OA z o (by rw[F];exact j a G);rw[F] at I;refine bC I ?_;dsimp only;have t:=x.FO c j;have w:=x.s3 c (j a G);have u:cN (Y (x.fj a).1):=λp g=>(by cases g;exact t.cT c ab ab);have K:cN (Y (x.av a a)):=λp g=>(by cases g;exact w.cT c ab ab);refine bF (P:=λd=>d=if(x.fj a).1=0\/41*(x.fj a).1<=64*x.av a a then .inr (.inr (.inr (.inr ([(b:Z)],0,())))) else .inl (aw (Y (x.fj a).1),aw (Y (x.av a a)),())) ?_ ?_
 ·refine bF (P:=λd=>d=(bz ((x.fj a).1=0\/41*(x.fj a).1<=64*x.av a a),aw (Y (x.fj a).1),aw (Y (x.av a a)),())) ?_ ?_
  ·refine bC (oX u) ?_;dsimp only;by_cases q:(x.fj a).1=0
   ·rw[aP (by show((gI (x.fj a).1==0)==br)=br;grind [jA,aI])];grind [aI,bu]
   rw[aS (by show((gI (x.fj a).1==0)==br)=bt;grind [jA,aD])];refine bC (Kh K u (w.pc c ab ab ab) (t.pc c ab ab ab)) ?_;simp_all [cy,bu]
  rintro _ rfl;dsimp only;rw[cW];refine alv (λq=>?_) (λq=>?_)
  ·rw[aB q];grind [bu]
  rw[aA q];grind [bu]
 rintro _ rfl;by_cases r:(x.fj a).1=0\/41*(x.fj a).1<=64*x.av a a
 ·rw[aB r];refine bu.2 (.inr ⟨_,bq,.inr ⟨[b],bq,ae,?_⟩⟩);simp_all [aA,cw,aB,xl,aZ.gR]
 rw[ck r];dsimp only;refine bC (y:=cO R full lf M) rfl ?_;cases cv with
 |none=>exact absurd (.inl (JS (co bq)).2) r
 |some h=>
  obtain⟨s,v,bx⟩:=ci h bq;have J:=e.Qu s v;have H:=e.mem s v;have a4:=e.PA s v;have a3:=λj=>e.OA s v j;generalize dg:R.getD h 0=f at*;have m:x.gR (a::ng R lf (b+1) (full-(b+1)))=if f∉x.rows.take x.full then x.gR (ng R lf (b+1) (full-(b+1))) else if¬x.fin f then bv else
   if 41*((x.fj a).1*(x.fj a).1)<=64*(x.av a a*(x.fj f).1) then Y [a] else
   if 41*(x.fj f).1<=64*x.av f f then Y [f] else Y [a,f]:=by
   rw[aZ.gR,aA (cw j),aA r,bx]
  replace m:=l.trans m;show ah (bif bz ((h:Z)>=(cO R full lf M).2.1) then _ else _) _;by_cases E:h<full
  rotate_left
  ·rw[aS (aI (show(h:Z)>=(cO R full lf M).2.1 by show(full:Z)<=(h:Z);omega))];exact bu.2 (.inl ⟨bq,m.trans (aB (mt J.1 E))⟩)
  rw[aP (aD (show¬(h:Z)>=(cO R full lf M).2.1 by show¬(full:Z)<=(h:Z);omega))];rw[aA (cw (J.2 E))] at m;refine bF a4 ?_;rintro⟨am,an,ap,_⟩ (⟨n,d2,i,_,_⟩|⟨n,i⟩)
  rotate_left
  ·dsimp only at i;subst i;dsimp only;rw[aS af];exact bu.2 (.inr ⟨_,bq,.inl ⟨bq,m.trans (b9 n)⟩⟩)
  cases i;dsimp only;rw[aP af];rw[ck (cw n)] at m;have A:=x.FO c n;have L:=x.s3 c (n f H);have N:cN (Y (x.fj f).1):=λp g=>(by cases g;exact A.cT c ab ab);have ce:cN (Y (x.av f f)):=λp g=>(by cases g;exact L.cT c ab ab);obtain⟨B,_,_,c1,ax,U,O,Q⟩:=bf.mul c w A ab ab ab;obtain⟨C,_,_,c2,V,ad,S,T⟩:=bf.mul c t t ab ab ab;cases ax;cases U;cases V;cases ad;rw[O] at B;rw[S] at C;refine bC (oW K N) (bC (oW u u) ?_);rw[O,S];refine bC (Kh (λp g=>by cases g;exact B.cT c ab ab) (λp g=>by cases g;exact C.cT c ab ab) (B.pc c ab ab ab) (C.pc c ab ab ab)) ?_;dsimp only;rw[cW];refine alv (λd=>?_) (λd=>?_)
  ·rw[Gh T Q] at d;refine bu.2 (.inr ⟨_,bq,.inr ⟨[b],bq,ae,?_⟩⟩);grind
  rw[Gh T Q] at d;rw[ck d] at m;refine bC (a3 (n f H)) (bC (Kh ce N (L.pc c ab ab ab) (A.pc c ab ab ab)) ?_);dsimp only;rw[cW];refine alv (λd=>?_) (λd=>?_)
  ·refine bu.2 (.inr ⟨_,bq,.inr ⟨[h],bq,ae,?_⟩⟩);grind
  refine bu.2 (.inr ⟨_,bq,.inr ⟨[b,h],bq,?_,?_⟩⟩)
  ·grind
  grind
end
end
def e4 (lf:ak5) (a:X):ak6:=(bK a).filter λb=>lf.getD b br
theorem F6 (lf:ak5) (a:X):e4 lf (a+1)=if lf.getD a br=bt then e4 lf a++[a] else e4 lf a:=by unfold e4;rw[je,qb,qd,an9];grind
def Km (lf:ak5) (a:X):(e4 lf a).length<=a:=dk (lv _ _) ac
theorem F7 (a:ak6) (lf:ak5) (b:X):fk a lf b=(e4 lf b).map λc=>a.getD c 0:=rfl
theorem SF {lf:ak5} (i:lf.length=f.length) (j:f.length<=1000):AL (Y (cO f a lf r),())=Y (be (e4 lf f.length),()):=by
 have d:ar (cO f a lf r).1=(f.length:Z):=(by rw[a7];exact b4 _ (fX _));unfold AL;refine bQ.1 ?_;refine bC (y:=cO f a lf r) rfl ?_;refine bF (P:=λc=>c=(be (e4 lf f.length),())) ?_ (by grind [bu]);refine bP f.length (λb c=>c=((b:Z),be (e4 lf b),())) rfl ?_ ?_
 ·rintro b _ h rfl;dsimp only;rw[d,aS (aI (aa:(b:Z)<(f.length:Z))),a9 aa];have e:aq (cO f a lf r).2.2.1 (b:Z)=Y (lf.getD b br):=by
   rw[fq];show lf[b]?=_;grind
  refine bF (P:=λc=>c=(be (e4 lf (b+1)),())) ?_ (by grind [bu]);refine bC (y:=cO f a lf r) rfl (bC e ?_);have:=Km lf b;rw[F6];cases g:lf.getD b br with
  |false=>
   rw[bR,aA ab];grind [bu]
  |true=>
   rw[bI,aB bq,c9 (by grind [fX]),aF];refine bu.2 ?_;rw[o7];rfl
 rintro _ rfl;dsimp only;rw[d,aP (aD (aa:¬(f.length:Z)<(f.length:Z)))];grind [bu]
theorem afC {a:eA} (e:∀b∈a,cN b) (f:cN x) (h:a.length<=1000):pH (a.map aw,aw x,())=Y (a.map (λb=>aw (cM b x)),()):=by
 unfold pH;refine bQ.1 ?_;dsimp only;refine bF (P:=λd=>d=(a.map (λb=>aw (cM b x)),())) ?_ (by grind [bu]);refine bP a.length (λc d=>d=((c:Z),(a.take c).map (λb=>aw (cM b x)),())) rfl ?_ ?_
 ·rintro c _ g rfl;dsimp only;rw[aS (aI (ae:(c:Z)<ar (a.map aw))),a9 aa];refine bC (y:=aw a[c]) (by grind [fq,bV]) ?_;refine bC (oW (e _ (b1 g)) f) ?_;grind [ct,bV,bu,c9]
 rintro _ rfl;dsimp only;rw[aP (aD (ae:¬(a.length:Z)<ar (a.map aw))),cm];grind [bu]
def eQ (a:X) (E:X->X->fV):bp (bp fV):=aC a λb=>aC a (E b)
theorem aaf {E:X->X->fV} (j:a<h) (k:b<h) (f:fV):∃e,(eQ h E)[a]?=Y e/\e.length=h/\e[b]?=Y (E a b)/\(eQ h E).set a (e.set b f)=eQ h λc d=>if c=a/\d=b then f else E c d:=by
 refine⟨_,h0 j,cU _ _,h0 k,?_⟩;unfold eQ;rw[ha,ha];refine c4 λc l=>?_;by_cases g:c=a
 ·subst g;rw[gA];refine c4 λd m=>?_;by_cases i:d=b
  ·subst i;rw[gA];grind
  simp_all [gT,aA]
 simp_all [gT,c4,aA]
def kX (c:ak6) (f:X->X->ak1) (g h:X->ak1) (E:X->X->fV) (d e:X):X->X->fV:=λa b=>
 if(a∈c.take d/\b∈c)\/(c[d]?=Y a/\b∈c.take e) then aw (cQ (f a b) (dd (cM (g a) (h b)))) else E a b
theorem TI {R:ak6} {full:X} {lf:ak5} {E:X->X->fV} {l:ak6} {s:X->X->ak1} {u v:X->ak1} (S:a<=1000) (w:∀J∈l,J<a) (T:l.Nodup) (O:l.length<=1000) (N:∀c∈l,∀e∈l,E c e=aw (s c e)) (G:∀c∈l,∀e∈l,cN (s c e)) (H:∀c∈l,cN (u c)) (I:∀c∈l,cN (v c)):qB (cO R full lf (eQ a E),be l,l.map (λc=>aw (u c)),l.map (λc=>aw (v c)),())=Y (cO R full lf (eQ a λc e=>if c∈l/\e∈l then aw (cQ (s c e) (dd (cM (u c) (v e)))) else E c e),()):=by
 have x:ar (be l)=(l.length:Z):=(by rw[a7,fX]);have q:∀b,(z:b<l.length)->aq (be l) (b:Z)=Y ((l[b]:X):Z):=λb g=>(by rw[fq];show(l.map λ(M:X)=>(M:Z))[b]?=_;grind);have y:∀(h:X->ak1) b,(z:b<l.length)->aq (l.map λc=>aw (h c)) (b:Z)=Y (aw (h l[b])):=λh b g=>(by grind [fq,bV]);unfold qB;refine bQ.1 ?_;dsimp only;refine bF (P:=λf=>f=(cO R full lf (eQ a (kX l s u v E l.length 0)),())) ?_ ?_
 rotate_left
 ·rintro _ rfl;refine bu.2 ?_;have:eQ a (kX l s u v E l.length 0)=eQ a λc e=>if c∈l/\e∈l then aw (cQ (s c e) (dd (cM (u c) (v e)))) else E c e:=by
   unfold eQ kX;grind
  grind
 refine bP l.length (λb f=>f=((b:Z),cO R full lf (eQ a (kX l s u v E b 0)),())) ?_ ?_ ?_
 ·grind [c4,eQ,kX]
 rotate_left
 ·rintro _ rfl;dsimp only;rw[x,aP (aD (aa:¬(l.length:Z)<(l.length:Z)))];grind [bu]
 rintro b _ g rfl;dsimp only;rw[x,aS (aI (aa:(b:Z)<(l.length:Z))),a9 aa];have k:=b1 g;have B:=w _ k;refine bC (q b g) ?_;refine bF (P:=λf=>f=(cO R full lf (eQ a (kX l s u v E b l.length)),())) ?_ ?_
 rotate_left
 ·rintro _ rfl;refine bu.2 ?_;have:eQ a (kX l s u v E b l.length)=eQ a (kX l s u v E (b+1) 0):=by
   unfold eQ kX;refine c4 λc _=>c4 λe _=>?_;have:(c∈l.take b/\e∈l\/l[b]?=Y c/\e∈l.take l.length)↔(c∈l.take (b+1)/\e∈l\/l[b+1]?=Y c/\e∈l.take 0):=(by rw[gC,hA,bh g];grind);grind
  grind
 refine bP l.length (λd f=>f=((d:Z),cO R full lf (eQ a (kX l s u v E b d)),())) rfl ?_ ?_
 rotate_left
 ·rintro _ rfl;dsimp only;rw[aP (aD (aa:¬(l.length:Z)<(l.length:Z)))];grind [bu]
 rintro d _ j rfl;dsimp only;rw[aS (aI (aa:(d:Z)<(l.length:Z))),a9 aa];have m:=b1 j;have C:=w _ m;have V:l[b]∉l.take b:=λD=>(by grind [amw,amR]);have U:l[d]∉l.take d:=λD=>(by grind [amw,amR]);have F:kX l s u v E b d l[b] l[d]=aw (s l[b] l[d]):=(by simp_all [ck,kX]);obtain⟨K,o,ad,eD,L⟩:=aaf (E:=kX l s u v E b d) B C (aw (cQ (s l[b] l[d]) (dd (cM (u l[b]) (v l[d])))));rw[F] at eD;have Q:(eQ a (kX l s u v E b d)).length=a:=cU _ _;have A:(cO R full lf (eQ a (kX l s u v E b d))).2.2.2.1=eQ a (kX l s u v E b d):=rfl;have r:=eV (n:=(eQ a (kX l s u v E b d)).length) (i:=l[b]) aa;have t:=eV (n:=K.length) (i:=l[d]) aa;refine bC (q d j) ?_;rw[A];refine bC r (bC r ?_);rw[gh o,bM];refine bC t ?_;rw[gh o,gh eD,bM];refine bC (y u b g) (bC (y v d j) (bC (oW (H _ k) (I _ m)) (bC (Fp (G _ k _ m) (kl _ _)) ?_)));refine bC t ?_;rw[gh o,gh eD];refine bu.2 ?_;dsimp only;rw[L];have:(eQ a λc e=>if c=l[b]/\e=l[d] then aw (cQ (s l[b] l[d]) (dd (cM (u l[b]) (v l[d])))) else kX l s u v E b d c e)=eQ a (kX l s u v E b (d+1)):=by
  unfold eQ kX;refine c4 λc _=>c4 λe _=>?_;dsimp only;by_cases p:c=l[b]/\e=l[d]
  ·obtain⟨rfl,rfl⟩:=p;rw[aB (show l[b]=l[b]/\l[d]=l[d] from⟨bq,bq⟩),aB];grind [anL,ak9,ct,bV]
  rw[aA p];grind [ct,bV,ak9,amD]
 rw[<-this];rfl
section
def g4 {α:Type} (l:ak6) (f g:X->X->α) (c d a b:X):α:=if(a∈l.take c/\b∈l)\/(l[c]?=Y a/\b∈l.take d) then f a b else g a b
section
variable {α:Type} {l:ak6} {f g:X->X->α}
theorem I8:g4 l f g 0 0=g:=by grind [g4]
theorem I7 (c:a<l.length):g4 l f g a l.length=g4 l f g (a+1) 0:=by funext i b;unfold g4;have:(i∈l.take a/\b∈l\/l[a]?=Y i/\b∈l.take l.length)↔(i∈l.take (a+1)/\b∈l\/l[a+1]?=Y i/\b∈l.take 0):=(by rw[gC,hA,bh c];grind);grind
theorem I4:g4 l f g l.length 0=λa b=>if a∈l/\b∈l then f a b else g a b:=by grind [g4]
theorem I6 (e:l.Nodup) (c:a<l.length) (d:b<l.length):g4 l f g a b l[a] l[b]=g l[a] l[b]:=by unfold g4;rw[aA];grind [amR,amw]
theorem I5 (h:a<l.length) (i:b<l.length):g4 l f g a (b+1)=λc d=>if c=l[a]/\d=l[b] then f l[a] l[b] else g4 l f g a b c d:=by
 funext c d;unfold g4;by_cases e:c=l[a]/\d=l[b]
 ·obtain⟨rfl,rfl⟩:=e;rw[aB (show l[a]=l[a]/\l[b]=l[b] from⟨bq,bq⟩),aB];grind [anL,ak9,ct,bV]
 rw[aA e];grind [ct,bV,ak9,amD]
end
def gj (a:ak6) (b:X->X->fV):bp (bp fV):=a.map λc=>a.map λd=>b c d
theorem Mc (a:ak6) (b:X->X->fV):(gj a b).length=a.length:=di _
theorem Hc (d:X->X->fV) (e:f[h]?=Y a) (g:f[t]?=Y b):∃c,(gj f d)[h]?=Y c/\c.length=f.length/\c[t]?=Y (d a b):=by simp_all [jQ,di,gj]
theorem Tq (k:f.Nodup) (h:f[a]?=Y b) (g:X->i) (d:i):(f.map g).set a d=f.map λc=>if c=b then d else g c:=by
 refine ig λj=>?_;rw[xk,jQ,jQ,di];have l:a<f.length:=(ih.1 h).1;by_cases e:a=j
 ·grind
 rw[aA e];grind [List.getElem?_inj]
theorem Md (i:f.Nodup) (c:X->X->fV) (l:f[b]?=Y a) (m:f[t]?=Y h) (j:fV) {g:bp fV} (n:(gj f c)[b]?=Y g):(gj f c).set b (g.set t j)=gj f λe d=>if e=a/\d=h then j else c e d:=by have k:g=f.map λd=>c a d:=(by grind [al6,gj]);subst k;rw[Tq i m];unfold gj;rw[Tq i l];refine iL λe _=>?_;grind
theorem TX {a b:X->X->fV} (e:∀c∈f,∀d∈f,a c d=b c d):gj f a=gj f b:=by grind [alq,gj]
theorem O4 (a:ak6) (g:X->i):aC a.length (λb=>g (a.getD b 0))=a.map g:=by unfold aC;refine ig λc=>?_;grind
theorem aag (a:ak6) (b:X->X->fV):eQ a.length (λc d=>b (a.getD c 0) (a.getD d 0))=gj a b:=by grind [alq,O4,gj,aC,eQ]
end
section
section
variable {G:akW} {l:bp eE} {n t:X} {L:X->aZ} {ps:bp aN} {A:X->X->ak1}
theorem Al (l:bp eE) (t a:X):eJ l (t+1) a=if gH l t=(a:Z) then eJ l t a++[t] else eJ l t a:=by grind [alu,gH,eJ]
theorem N8 (b:X->ak6) (a c:X):∀d,((eJ l a c).flatMap b).length<=((eJ l (a+d) c).flatMap b).length
 |0=>bg _
 |d+1=>by have e:=N8 b a c d;grind [alr,Al]
def kr.NH (b:kr l n t L ps) (a:iW n l t):(kb l L t).length<=n:=by have c:=(b.Ad a).length_eq;rw[hq,mr] at c;have:=a.xR;omega
def kr.N7 (c:kr l n t L ps) (e:iW n l t) (g:a<=t):((eJ l a t).flatMap (kS L)).length<=n:=by have b:=c.NH e;unfold kb at b;rw[hq] at b;have d:=N8 (l:=l) (kS L) a t (t-a);rw[(aa:a+(t-a)=t)] at d;have f:((eJ l t t).flatMap λa=>(L a).rows.take (L a).full).length=((eJ l t t).flatMap (kS L)).length:=rfl;omega
theorem aal (b:ak6) (a:X):(be b).take a=be (b.take a):=by grind [ape,be]
theorem nJ (c:a<f.length):aq (be f) (a:Z)=Y ((f[a]:X):Z):=by rw[fq];show(f.map λ(b:X)=>(b:Z))[a]?=_;grind
theorem qX (c:a<f.length) (b:Z->bA i):rd (be f) (a:Z) b=b ((f[a]:X):Z):=by simp_all [fX,eV,aF,gh,nJ,fq,be,rd]
def lT (a:ak6) (c:X->X->fV) (d b:X):bp fV:=(a.take b).map (c (a.getD d 0))++bJ (a.length-b) (br,((br,(([]:ak7),())),((0:Z),())))
theorem S3 {c:X->X->fV} (d:a<=f.length):(lT f c b a).length=f.length:=by grind [alr,b6,alj,List.length_replicate,lT]
def S4 {h:X->X->fV} (d:a<f.length):(lT f h b a).set a (h (f.getD b 0) f[a])=lT f h b (a+1):=by unfold lT;have c:f.length-a=(f.length-(a+1))+1:=aa;have e:((f.take a).map (h (f.getD b 0))).length=a:=ae;rw[an0 _ _ aa,e,pt,c,List.replicate_succ,List.set_cons_zero,hA,bh d,iK,jd];rfl
theorem afm {h:X->X->fV} (c:a<f.length) (g:h (f.getD b 0) f[a]=aw (Y 0)):lT f h b a=lT f h b (a+1):=by
 rw[<-S4 c,g];refine(ig λi=>?_);rw[xk];by_cases d:a=i
 ·subst d;rw[aB bq,S3 aa,aB c];unfold lT;have e:((f.take a).map (h (f.getD b 0))).length=a:=ae;rw[qe aa,e,pt,List.getElem?_replicate,aB aa];rfl
 grind
theorem aeO (J:gU G l) (I:G.length=n) (ap:t<l.length) (z:kr l n t L ps) (T:∀a b,cN (A a b)) (f3:n<=100) (f0:l.length<=100) {S:ny} (ce:∀a b:X,a<n->b<n->vJ (S,c,(a:Z),(b:Z),())=Y (aw (A a b),())):Fa (S,c,l,(t:Z),(bK t).map (λe=>gq (L e)),())=Y (gq (h6 A l L t),()):=by
 have r:=iW.of J I ap;have fn:=z.NH r;have N:∀e,e<=t->∃j:eE,aq l (e:Z)=Y j/\j=((bk l e:Z),(bk l (e+1):Z),g6 l (e:Z),gH l e,()):=λe B=>(by have:=(iW.of J I (aa:e<l.length)).g;grind [fq]);have O:∀e,e<t->aq ((bK t).map λe=>gq (L e)) (e:Z)=Y (gq (L e)):=λe B=>(by grind [fq,List.getElem?_range]);have fr:=r.xR;have f5:=r.own;have co:=z.ve T r;have E:=xH A L t (l:=l);have V:∀a∈kb l L t++lp l t,a<n:=λa o=>z.Ae A r ae;have ci:=z.Du A T r;rw[E.1] at ci;have ad:=co.nd;rw[E.1] at ad;unfold Fa;refine bQ.1 ?_;dsimp only;refine bF (P:=λk=>k=(([],((0:Z),([],()))),(be ((eJ l t t).flatMap (kS L)),((0:Z),([],()))),())) ?_ ?_
 ·refine bP t (λe k=>k=((e:Z),([],((0:Z),([],()))),(be ((eJ l e t).flatMap (kS L)),((0:Z),([],()))),())) rfl ?_ ?_
  ·rintro e _ B rfl;dsimp only;rw[aS (aI (aa:(e:Z)<(t:Z))),a9 aa];obtain⟨j,v,rfl⟩:=N e aa;refine bF (P:=λk=>k=(([],((0:Z),([],()))),(be ((eJ l (e+1) t).flatMap (kS L)),((0:Z),([],()))),())) ?_ (by grind [bu]);refine bC v ?_;dsimp only;have M:=z.N7 r (aa:e+1<=t);rw[Al] at M|-;rw[gp,cW];by_cases p:gH l e=(t:Z)
   ·rw[aB p] at M|-;rw[aB p];refine bC (O e B) (bC (O e B) ?_);have F:=(z.w e B).full;rw[mn,hq] at M;have f1:(be (L e).rows).length=(L e).rows.length:=fX _;refine bC (y:=(0,(L e).full)) ?_ ?_
    ·have em:(gq (L e)).2.1=((L e).full:Z):=rfl;simp_all [aF,BU,qN,dj,gq]
    have bl:((((gq (L e)).1).take (L e).full).drop 0)=be (kS L e):=(by show((be (L e).rows).take (L e).full).drop 0=_;rw[List.drop_zero,aal];rfl);dsimp only;rw[bl];have ft:(kS L e).length<=n:=ae;rw[c9 (by grind [fX]),bM];grind [o7,bu]
   rw[aA p,aA p];grind [bu]
  rintro _ rfl;dsimp only;rw[aP (aD (aa:¬(t:Z)<(t:Z)))];grind [bu]
 rintro _ rfl;dsimp only;obtain⟨j,v,rfl⟩:=N t (cc _);refine bC v ?_;dsimp only;have fs:=z.N7 r (cc t);refine bF (P:=λk=>k=(([],((0:Z),([],()))),(be (kb l L t),((0:Z),([],()))),())) ?_ ?_
 ·refine bP (gG l t) (λa k=>k=(((bk l t+a:X):Z),([],((0:Z),([],()))),(be ((eJ l t t).flatMap (kS L)++alb (bk l t) a),((0:Z),([],()))),())) ?_ ?_ ?_
  ·grind
  ·rintro a _ o rfl;dsimp only;refine bC v ?_;dsimp only;rw[aS (aI (aa:((bk l t+a:X):Z)<(bk l (t+1):Z))),a9 aa];rw[c9 (by grind [amx,fX,alr,apf]),bM];refine bu.2 ?_;rw[aof,<-alG,o7 ((eJ l t t).flatMap (kS L)++alb (bk l t) a),anq];rfl
  rintro _ rfl;dsimp only;refine bC v ?_;dsimp only;rw[aP (aD (aa:¬(((bk l t+gG l t:X):Z)<(bk l (t+1):Z))))];exact bu.2 bq
 rintro _ rfl;dsimp only;have eq:=r.C9;have f4:=r.QY;rw[show ar (be (kb l L t))=((kb l L t).length:Z) by rw[a7,fX]];generalize c2:((kb l L t).length:Z)=q;refine bF (P:=λk=>k=(([],((0:Z),([],()))),(be (kb l L t++lp l t),(q,([],()))),())) ?_ ?_
 ·refine bP (h2 l t) (λa k=>k=((a:Z),([],((0:Z),([],()))),(be (kb l L t++(alb (gG l t) (a-gG l t)).map (j0 l t)),(q,([],()))),())) ?_ ?_ ?_
  ·grind
  ·rintro a _ o rfl;dsimp only;refine bC v ?_;dsimp only;rw[aS (aI (show(a:Z)<ar (g6 l (t:Z)) by grind [a7,h2])),a9 aa];have am:aq (g6 l (t:Z)) (a:Z)=Y ((j0 l t a:X):Z):=(by rw[fq];exact r.get a o);refine bF (P:=λk=>k=(([],((0:Z),([],()))),(be (kb l L t++(alb (gG l t) (a+1-gG l t)).map (j0 l t)),(q,([],()))),())) ?_ (by grind [bu]);refine bC v (bC am (bC v ?_));dsimp only;rcases cq a (gG l t) with p|p
   ·have:=r.ro a p;rw[aP (aD (aa:¬((j0 l t a:X):Z)>=(bk l (t+1):Z))),(aa:a+1-gG l t=a-gG l t)];grind [bu]
   have:=r.GR a p o;rw[aS (aI (aa:((j0 l t a:X):Z)>=(bk l (t+1):Z))),(aa:a+1-gG l t=a-gG l t+1)];refine bC v (bC am ?_);rw[c9 (by grind [amx,fX,alr,b6,apf]),aF];refine bu.2 ?_;rw[aof,iK,<-jd,o7 (kb l L t++(alb (gG l t) (a-gG l t)).map (j0 l t)),kM,(aa:gG l t+(a-gG l t)=a)];rfl
  rintro _ rfl;dsimp only;refine bC v ?_;dsimp only;rw[aP (aD (show¬((h2 l t:Z)<ar (g6 l (t:Z))) by grind [a7,h2]))];exact bu.2 bq
 rintro _ rfl;dsimp only;generalize ex:kb l L t++lp l t=d at*;have U:ar (be d)=(d.length:Z):=(by rw[a7,fX]);have fz:∀a,(a4:a<d.length)->d.getD a 0=d[a]:=λa a4=>ae;refine bF (P:=λk=>k=(([],((0:Z),([],()))),(be d,(q,(gj d (λa b=>aw (iN A l t a b)),()))),())) ?_ ?_
 ·refine bP d.length (λa k=>k=((a:Z),([],((0:Z),([],()))),(be d,(q,((d.take a).map (λa=>d.map λb=>aw (iN A l t a b)),()))),())) rfl ?_ ?_
  ·rintro a _ o rfl;dsimp only;rw[U,aS (aI (aa:(a:Z)<(d.length:Z))),a9 aa,hP aa,bM,c9 ae,bM];have d0:((d.take a).map (λa=>d.map λb=>aw (iN A l t a b))).length=a:=ae;refine bF (P:=λk=>k=(([],((0:Z),([],()))),(be d,(q,((d.take a).map (λa=>d.map λb=>aw (iN A l t a b))++[lT d (λa b=>aw (iN A l t a b)) a d.length],()))),())) ?_ ?_
   ·refine bP d.length (λb k=>k=((b:Z),([],((0:Z),([],()))),(be d,(q,((d.take a).map (λa=>d.map λb=>aw (iN A l t a b))++[lT d (λa b=>aw (iN A l t a b)) a b],()))),())) ?_ ?_ ?_
    ·rfl
    ·rintro b _ u rfl;dsimp only;rw[aS (aI (aa:(b:Z)<(d.length:Z))),a9 aa];refine bF (P:=λk=>k=(([],((0:Z),([],()))),(be d,(q,((d.take a).map (λa=>d.map λb=>aw (iN A l t a b))++[lT d (λa b=>aw (iN A l t a b)) a (b+1)],()))),())) ?_ (by grind [bu]);rw[qX o,qX u];have dl:(if((d[b]:X):Z)<((d[a]:X):Z) then((d[b]:X):Z) else((d[a]:X):Z))=((min d[a] d[b]:X):Z):=aa;rw[dl];refine bC (y:=(bz (bk l t<=min d[a] d[b]/\min d[a] d[b]<bk l (t+1)),([],((0:Z),([],()))),(be d,(q,((d.take a).map (λa=>d.map λb=>aw (iN A l t a b))++[lT d (λa b=>aw (iN A l t a b)) a b],()))),())) ?_ ?_
     ·refine aj v ?_;dsimp only;by_cases p:bk l t<=min d[a] d[b]
      ·simp_all
      grind
     dsimp only;by_cases p:bk l t<=min d[a] d[b]/\min d[a] d[b]<bk l (t+1)
     ·rw[aS (aI p)];have av:((d.take a).map (λa=>d.map λb=>aw (iN A l t a b))++[lT d (λa b=>aw (iN A l t a b)) a b])[a]?=Y (lT d (λa b=>aw (iN A l t a b)) a b):=by
       simp_all
      rw[eV ae,bM,qX o,qX u];refine bC (ce _ _ (V _ (b1 o)) (V _ (b1 u))) ?_;dsimp only;have fp:(lT d (λa b=>aw (iN A l t a b)) a b).length=d.length:=S3 aa;rw[gh av,bM,eV aa,bM,gh av,gh (bV (aa:b<(lT d (λa b=>aw (iN A l t a b)) a b).length))];refine bu.2 ?_;have d1:aw (A d[a] d[b])=aw (iN A l t (d.getD a 0) d[b]):=(by simp_all [b9,iN]);dsimp only;rw[d1,S4 (h:=λa b=>aw (iN A l t a b)) u,an0 _ _ aa,d0,Nat.sub_self];rfl
     rw[aP (aD p)];refine bu.2 ?_;rw[afm (h:=λa b=>aw (iN A l t a b)) u (by simp_all [aA,iN])]
    rintro _ rfl;dsimp only;rw[aP (aD (aa:¬(d.length:Z)<(d.length:Z)))];grind [bu]
   rintro _ rfl;refine bu.2 ?_;have:lT d (λa b=>aw (iN A l t a b)) a d.length=d.map λb=>aw (iN A l t d[a] b):=(by simp_all [oA,pt,gC,lT]);rw[this,hA,bh o,iK];rfl
  rintro _ rfl;dsimp only;rw[U,aP (aD (aa:¬(d.length:Z)<(d.length:Z))),cm];exact bu.2 bq
 rintro _ rfl;dsimp only;have c1:∀e,((eJ l e t).foldl (λm e=>m.plus (L e)) (kw A l L t)).rows=d:=λe=>(by simp_all [Ca,eJ,kw]);have ds:∀e a b,cN (((eJ l e t).foldl (λm e=>m.plus (L e)) (kw A l L t)).s a b):=λe=>GK L _ _ λa b=>by
  show cN (if _ then _ else _);split
  ·grind
  exact wE
 refine bF (P:=λk=>k=(([],((0:Z),([],()))),gq (h6 A l L t),())) ?_ (by grind [bu]);refine bP t (λe k=>k=((e:Z),([],((0:Z),([],()))),(be d,(q,(gj d (λa b=>aw (((eJ l e t).foldl (λm e=>m.plus (L e)) (kw A l L t)).s a b)),()))),())) rfl ?_ ?_
 rotate_left
 ·rintro _ rfl;dsimp only;rw[aP (aD (aa:¬(t:Z)<(t:Z)))];refine bu.2 ?_;unfold gq;rw[E.1,E.2,c2];rfl
 rintro e _ B rfl;dsimp only;rw[aS (aI (aa:(e:Z)<(t:Z))),a9 aa];obtain⟨j,d3,rfl⟩:=N e aa;refine bF (P:=λk=>k=(([],((0:Z),([],()))),(be d,(q,(gj d (λa b=>aw (((eJ l (e+1) t).foldl (λm e=>m.plus (L e)) (kw A l L t)).s a b)),()))),())) ?_ (by grind [bu]);refine bC d3 ?_;dsimp only;rw[fJ,Al];by_cases p:gH l e=(t:Z)
 rotate_left
 ·rw[aA p,aS ae];grind [bu]
 rw[aB p,aP ae];refine bC (O e B) ?_;rw[aqq,ans,List.foldl_nil];have K:∀a∈(L e).rows,a∈d:=λa o=>(by have:=z.child A J I ap (BO.2 ⟨B,p⟩) o;grind);have d2:=ds e;have f8:=c1 e;generalize(eJ l e t).foldl (λm e=>m.plus (L e)) (kw A l L t)=m at*;have F:=z.w e B;generalize L e=j at*;have f9:j.rows.length<=100:=(by have:=F.nd.length_le_of_subset (l₂:=d) K;omega);have H:ar (gq j).1=(j.rows.length:Z):=(by rw[a7];exact b4 _ (fX _));refine bF (P:=λk=>k=(([],((0:Z),([],()))),(be d,(q,(gj d (λa b=>aw ((m.plus j).s a b)),()))),())) ?_ (by grind [bu]);have cs:(λa b=>aw ((m.plus j).s a b))=λa b=>if a∈j.rows/\b∈j.rows then aw (cQ (m.s a b) (j.s a b)) else aw (m.s a b):=by funext a b;show aw (if _ then _ else _)=_;grind
 rw[cs,<-I4 (l:=j.rows) (f:=λa b=>aw (cQ (m.s a b) (j.s a b))) (g:=λa b=>aw (m.s a b))];generalize cv:(λa b=>aw (cQ (m.s a b) (j.s a b)))=C;generalize dg:(λa b=>aw (m.s a b))=D;refine bP j.rows.length (λa k=>k=((a:Z),([],((0:Z),([],()))),(be d,(q,(gj d (g4 j.rows C D a 0),()))),gq j,())) ?_ ?_ ?_
 ·rw[I8];rfl
 rotate_left
 ·rintro _ rfl;dsimp only;rw[H,aP (aD (aa:¬(j.rows.length:Z)<(j.rows.length:Z)))];grind [bu]
 rintro a _ o rfl;dsimp only;rw[H,aS (aI (aa:(a:Z)<(j.rows.length:Z))),a9 aa];refine bF (P:=λk=>k=(([],((0:Z),([],()))),(be d,(q,(gj d (g4 j.rows C D a j.rows.length),()))),gq j,())) ?_ (by grind [bu,I7]);refine bP j.rows.length (λb k=>k=((b:Z),([],((0:Z),([],()))),(be d,(q,(gj d (g4 j.rows C D a b),()))),gq j,())) rfl ?_ ?_
 rotate_left
 ·rintro _ rfl;dsimp only;rw[H,aP (aD (aa:¬(j.rows.length:Z)<(j.rows.length:Z)))];grind [bu]
 rintro b _ u rfl;dsimp only;rw[H,aS (aI (aa:(b:Z)<(j.rows.length:Z))),a9 aa];have a0:=b1 o;have a3:=b1 u;obtain⟨d5,d6,d7,_⟩:=B9 (l:=d) aa j.rows[a];obtain⟨d4,rfl,Q⟩:=d7 (K _ a0);obtain⟨d5,d9,ek,_⟩:=B9 (l:=d) aa j.rows[b];obtain⟨k,rfl,R⟩:=ek (K _ a3);have f6:=(alT.1 Q).1;have f7:=(alT.1 R).1;obtain⟨d8,el,gi,eD⟩:=Hc (g4 j.rows C D a b) Q R;have bx:=Md ad (g4 j.rows C D a b) Q R (C j.rows[a] j.rows[b]) el;rw[<-I5 o u] at bx;rw[I6 F.nd o u] at eD;have f2:(gj d (g4 j.rows C D a b)).length=d.length:=Mc _ _;have an:=eV (n:=(gj d (g4 j.rows C D a b)).length) (i:=d4) aa;have fT:=eV (n:=d8.length) (i:=k) aa;obtain⟨gf,gc,ge⟩:=yx (x:=j) (bV o) (bV u);have fl:=Ci (d2 j.rows[a] j.rows[b]) (F.okd _ a0 _ a3);subst cv dg;refine bC (nJ o) (bC d6 (bC (nJ u) (bC d9 (bC an (bC an ?_)))));simp_all [bu,gh,bC,bM]
end
end
theorem KD {c:Type} {p:c->bD} {d:c}:∀{e:bp c},d∈e.takeWhile p->p d=bt
 |[],a=>by cases a
 |b::e,a=>by
  rw[List.takeWhile_cons] at a;split at a
  ·rcases gn.1 a with rfl|a
   ·omega
   exact KD a
  grind
def oa (a:X->X) (c:X) (d:ak6):ak6:=d.takeWhile (λb=>bz (a b<a c))++c::d.dropWhile (λb=>bz (a b<a c))
def md (a:X->X) (b:ak6):ak6:=b.foldl (λd c=>oa a c d) []
abbrev iB:=ak6×(X->Z)
def aN.cX (a:aN):bp iB:=a.l.map λb=>(a.rows,b)
def jj (b:iB->ak7) (a:bp iB):ak7:=(bK (a.length+1)).map λc=>(((a.take c).flatMap b).length:Z)
def e5 (a:X->X) (b:iB):ak7:=(md a b.1).map λc=>(a c:Z)
def hE (b:X->X) (a:iB):ak7:=(md b a.1).map a.2
def n3 (c:ak7) (a:bp aN) (del:Z):c3:=
 ((
  a.flatMap aN.aQ).map (λb=>c.getD b 0),(a.map (λe=>(e.aQ.length:Z)),(a.flatMap (·.d),
  (jj (e5 λb=>(a.flatMap aN.aQ).idxOf b) (a.flatMap aN.cX),((a.flatMap aN.cX).flatMap (e5 λb=>(a.flatMap aN.aQ).idxOf b),((a.flatMap aN.cX).flatMap (hE λb=>(a.flatMap aN.aQ).idxOf b),(del,())))))))
theorem NU (b:iB->ak7) (a:bp iB) (c:iB):jj b (a++[c])=jj b a++[(((a++[c]).flatMap b).length:Z)]:=by
 unfold jj;rw[hq,nr,je,iK];congr 1
 ·grind [alq]
 grind
theorem YZ (a:X->X) (c:X) (b:ak6):(oa a c b).length=b.length+1:=by unfold oa;have e:=b4 cE (C6 (p:=λd=>bz (a d<a c)) (l:=b));grind
def TG (c:X->X):∀(b a:ak6),(b.foldl (λa p=>oa c p a) a).length=a.length+b.length
 |[],a=>rfl
 |p::b,a=>by rw[ans,TG c b,YZ,ju];omega
theorem q4 (b:X->X) (a:ak6):(md b a).length=a.length:=by unfold md;rw[TG,po,nv]
theorem af6 (b:X->X) (c:a<f.length):md b (f.take (a+1))=oa b f[a] (md b (f.take a)):=by grind [ct,bV,md]
theorem FC (b:iB->bp i) {cs:bp iB} (c:∀a∈cs,(b a).length<=100):(cs.flatMap b).length<=100*cs.length:=by
 induction cs with
 |nil=>grind
 |cons a cs d=>
  grind
theorem aed (a:X->X) (c:ak6) (b:X) (O:c.length<=1000) (d:c3) (f:aM) (g:c3) (k:aM):(loop (σ:=rD) (ρ:=rD) (λ(h,r,n,m,j,s,_)=>
 bE (α:=(c3×aM×c3×aM×aM×bw)⊕(rD⊕rD)) (
  bif bz (h<ar j)==bt then rd j h λI=>
  bif bz (I<(a b:Z)) then
 Y (.inl (r,n,m,j,s,())) else
 Y (.inr (.inr (h,r,n,m,j,s,()))) else Y (.inr (.inr (h,r,n,m,j,s,())))) λq=>match q with
 |.inl (G,u,t,E,H,_)=>(
 Y (.inl (aO h,G,u,t,E,H,())))
 |.inr F=>Y F) (0,d,f,g,c.map (λb=>(a b:Z)),k,()))=Y (((c.takeWhile λd=>bz (a d<a b)).length:Z),d,f,g,c.map (λb=>(a b:Z)),k,()):=by
 refine bQ.1 ?_;generalize A:c.takeWhile (λd=>bz (a d<a b))=e;have M:e.length<=c.length:=(by grind [aqr]);have D:=C6 (p:=λd=>bz (a d<a b)) (l:=c);rw[A] at D;have o:(c.map (λb=>(a b:Z))).length=c.length:=di _;refine bP e.length (λi q=>q=((i:Z),d,f,g,c.map (λb=>(a b:Z)),k,())) rfl ?_ ?_
 ·rintro i _ N rfl;dsimp only;have B:i<c.length:=aa;have x:a (c[i]'B)<a b:=by
   have z:e[i]∈c.takeWhile (λd=>bz (a d<a b)):=ae;have L:=KD z;grind
  refine bC (y:=.inl (d,f,g,c.map (λb=>(a b:Z)),k,())) ?_ ?_
  ·rw[a7,o,aS ae];simp_all [eV,aF,gh,jQ,bh,aS,aI,rd]
  grind [bu,a9]
 rintro _ rfl;dsimp only;refine bC (y:=.inr (.inr ((e.length:Z),d,f,g,c.map (λb=>(a b:Z)),k,()))) ?_ (bu.2 bq);rw[a7,o];by_cases w:e.length<c.length
 ·rw[aS ae];unfold rd;rw[o,eV w,aF,gh (v:=(a c[e.length]:Z)) ae,aF,aP (aD ?_)];intro K;have C:c.dropWhile (λd=>bz (a d<a b))≠[]:=λJ=>by
   grind
  have x:=aqs (λd=>bz (a d<a b)) C;grind
 grind
theorem PP (a:X->X) (c:X) (b:ak6) (e:X->i):((([]:bp i)++(((b.map e).take (b.takeWhile λd=>bz (a d<a c)).length).drop 0))++[e c])++(((b.map e).take (b.map e).length).drop (b.takeWhile λd=>bz (a d<a c)).length)=(oa a c b).map e:=by have f:=C6 (p:=λd=>bz (a d<a c)) (l:=b);rw[gC,mm,iD,<-ape,<-List.map_drop];grind [List.take_left,List.drop_left,alG,decide,oa]
theorem Hq (c:X->Z) (f:a<b) (e:Z) (d:ak7->bA i):wr (aC b c) (a:Z) e d=d (aC b (eK c a e)):=by simp_all [cU,eV,aF,gh,h0,ha,wr]
def zd (c:X->Z) (d:a<b) (e:Z->bA i):rd (aC b c) (a:Z) e=e (c a):=by unfold rd;rw[cU,eV d,aF,gh (h0 d),aF]
theorem YU {B:ak6} (c:f.Nodup) (b:f=l++a::B):f.idxOf a=l.length:=by grind
def TA (a b:X) (e:a<=b):((Y 0).bind λc=>(gF (a:Z)).bind λd=>(he c d b).bind λ_=>(oi b).map λ_=>(c,d))=Y (0,a):=by rw[aF,BU,aF,qN ⟨dj _,e⟩];rfl
def TB (b a:X) (e:b<=a):((gF (b:Z)).bind λc=>(Y a).bind λd=>(he c d a).bind λ_=>(oi a).map λ_=>(c,d))=Y (b,a):=by rw[BU,aF,aF,qN ⟨e,bg _⟩];rfl
theorem Cc {a:bp aN} (e:∀b∈a,sQ f b):a.length<=(a.flatMap aN.aQ).length/\(a.flatMap aN.d).length<=3*a.length/\(a.flatMap aN.cX).length=(a.flatMap aN.aQ).length:=by
 induction a with
 |nil=>grind
 |cons b a h=>
  obtain⟨i,j,k⟩:=h λg o=>e g ae;have c:=e b ac;have l:=c.at1;have m:=c.dl;have n:b.cX.length=b.aQ.length:=(by unfold aN.cX;rw[di,c.len]);grind
theorem Hb (c:aN->bp i) {b:bp aN} (d:a<b.length):(b.take (a+1)).flatMap c=(b.take a).flatMap c++c b[a]:=by grind [ct,bV]
def JB (c:aN->bp i) {b:bp aN} (d:a<b.length):b.flatMap c=(b.take a).flatMap c++(c b[a]++(b.drop (a+1)).flatMap c):=by
 conv=>lhs;rw[<-jF (a+1) b]
 rw[mn,Hb c d,jd]
theorem aeS (bx:c.length=a) (fp:a<=100) {f:bp aN} (E:(f.flatMap aN.aQ).Perm (bK a)) (y:∀b∈f,sQ (bK a) b) (del:Z):Fb (c,f.map jK,del,())=Y (n3 c f del,()):=by
 obtain⟨f3,f4,f5⟩:=Cc y;have d2:(f.flatMap aN.aQ).length=a:=(by rw[E.length_eq,amf]);have T:(f.flatMap aN.aQ).Nodup:=E.nodup_iff.2 aog;have J:∀e,e∈f.flatMap aN.aQ↔e<a:=λe=>(by rw[E.mem_iff,amg]);have C:ar (f.map jK)=(f.length:Z):=ae;have L:∀i,(Q:i<f.length)->aq (f.map jK) (i:Z)=Y (jK f[i]):=λi Q=>(by grind [fq,bV]);unfold Fb n3;refine bQ.1 ?_;dsimp only;generalize I:f.flatMap aN.aQ=m at*;rw[show ar c=(a:Z) by rw[a7,bx],hP aa,bM];refine bF (P:=λb=>b=(([],([],([],([],([],([],((0:Z),()))))))),aC a (λe=>(m.idxOf e:Z)),(m.map (λe=>c.getD e 0),(f.map (λb=>(b.aQ.length:Z)),(f.flatMap (·.d),([0],(([]:aM),(([]:aM),(del,()))))))),())) ?_ ?_
 ·refine bP f.length (λi b=>b=((i:Z),([],([],([],([],([],([],((0:Z),()))))))),aC a (λe=>if e∈(f.take i).flatMap aN.aQ then(m.idxOf e:Z) else 0),(((f.take i).flatMap aN.aQ).map (λe=>c.getD e 0),((f.take i).map (λb=>(b.aQ.length:Z)),((f.take i).flatMap (·.d),([0],(([]:aM),(([]:aM),(del,()))))))),())) ?_ ?_ ?_
  ·grind [iF,c4]
  rotate_left
  ·rintro _ rfl;dsimp only;rw[C,aP (aD (aa:¬(f.length:Z)<(f.length:Z))),cm];refine bu.2 ?_;have:(aC a λe=>if e∈f.flatMap aN.aQ then(m.idxOf e:Z) else 0)=aC a λe=>(m.idxOf e:Z):=c4 λe N=>by
    rw[I,aB ((J e).2 N)]
   grind
  rintro i _ q rfl;dsimp only;rw[C,aS (aI (aa:(i:Z)<(f.length:Z))),a9 aa];have w:=y _ (b1 q);have co:=JB aN.aQ q;have fT:=JB aN.d q;rw[I] at co;have n:=L i q;have F:=Hb aN.aQ q;have V:=Hb aN.d q;have a4:(f.take (i+1)).map (λb=>(b.aQ.length:Z))=(f.take i).map (λb=>(b.aQ.length:Z))++[(f[i].aQ.length:Z)]:=(by grind [ct,bV]);have f1:(f.take i).length<=f.length:=ae;generalize f[i]=b at*;generalize d3:(f.take i).flatMap aN.aQ=k at*;have d4:k.length+b.aQ.length<=a:=ae;refine bF (P:=λs=>s=(([],([],([],([],([],([],((0:Z),()))))))),aC a (λe=>if e∈k++b.aQ then(m.idxOf e:Z) else 0),((k++b.aQ).map (λe=>c.getD e 0),((f.take i).map (λb=>(b.aQ.length:Z)),((f.take i).flatMap (·.d),([0],(([]:aM),(([]:aM),(del,()))))))),())) ?_ ?_
  ·refine bP b.aQ.length (λg s=>s=((g:Z),([],([],([],([],([],([],((0:Z),()))))))),aC a (λe=>if e∈k++b.aQ.take g then(m.idxOf e:Z) else 0),((k++b.aQ.take g).map (λe=>c.getD e 0),((f.take i).map (λb=>(b.aQ.length:Z)),((f.take i).flatMap (·.d),([0],(([]:aM),(([]:aM),(del,()))))))),())) ?_ ?_ ?_
   ·simp_all
   ·rintro g _ M rfl;dsimp only;refine bC n ?_;have t:ar (jK b).1=(b.aQ.length:Z):=(by rw[a7];exact b4 _ (fX _));rw[t,aS (aI (aa:(g:Z)<(b.aQ.length:Z))),a9 aa];have K:aq (jK b).1 (g:Z)=Y ((b.aQ[g]:X):Z):=nJ M;have ce:b.aQ[g]<a:=(J _).1 ae;have a3:m.idxOf b.aQ[g]=(k++b.aQ.take g).length:=by
     refine YU T (B:=b.aQ.drop (g+1)++(f.drop (i+1)).flatMap aN.aQ) ?_;grind [alG,amC,anQ]
    refine bC n (bC K ?_);rw[Hq _ ce];refine bC n (bC K ?_);refine bC (gw aa) ?_;have ex:(k++b.aQ.take g).length<=a:=ae;rw[c9 ae,aF];refine bu.2 ?_;have ax:k++b.aQ.take (g+1)=(k++b.aQ.take g)++[b.aQ[g]]:=ag;have c1:(aC a (eK (λe=>if e∈k++b.aQ.take g then(m.idxOf e:Z) else 0) b.aQ[g] (ar ((k++b.aQ.take g).map λe=>c.getD e 0))))=aC a λe=>if e∈k++b.aQ.take (g+1) then(m.idxOf e:Z) else 0:=by
     refine c4 λe N=>?_;rw[ax];by_cases H:e=b.aQ[g]
     ·subst H;rw[gA,aB (lw _ (fH.2 bq)),a7,di,a3]
     rw[gT _ _ H];have:e∈(k++b.aQ.take g)++[b.aQ[g]]↔e∈k++b.aQ.take g:=ae;simp_all
    grind
   rintro _ rfl;dsimp only;refine bC n ?_;have t:ar (jK b).1=(b.aQ.length:Z):=(by rw[a7];exact b4 _ (fX _));rw[t,aP (aD (aa:¬(b.aQ.length:Z)<(b.aQ.length:Z))),cm];grind [bu]
  rintro _ rfl;dsimp only;have ek:((f.take i).flatMap aN.d).length+b.d.length<=3*f.length:=ae;refine bC n ?_;rw[c9 ae,bM];refine bC n ?_;rw[c9 (by show((f.take i).flatMap aN.d).length+b.d.length<=_;omega),bM];refine bu.2 ?_;have t:ar (jK b).1=(b.aQ.length:Z):=(by rw[a7];exact b4 _ (fX _));rw[F,V,a4,t];rfl
 rintro _ rfl;dsimp only;generalize el:(λe=>m.idxOf e)=h at*;have am:(λe=>(m.idxOf e:Z))=λe=>(h e:Z):=ae;rw[am];have ci:∀b∈f,b.rows.length<=100:=λb w=>(by have:=(y b w).nd.length_le_of_subset (y b w).sub;grind);have U:∀r:bp iB,(∀v∈r,v.1.length<=100)->r.length<=100->(r.flatMap (e5 h)).length<=10000/\(r.flatMap (hE h)).length<=10000:=λr c2 dg=>(by grind [FC,b6,q4,hE,e5]);have d8:∀v∈f.flatMap aN.cX,v.1.length<=100:=λv A=>(by obtain⟨b,w,A⟩:=aqt.1 A;obtain⟨j,_,rfl⟩:=apb.1 A;grind);generalize d1:m.map (λe=>c.getD e 0)=z;generalize d5:f.map (λb=>(b.aQ.length:Z))=gd;generalize d0:f.flatMap (·.d)=x;refine bF (P:=λb=>b=(([],([],([],([],([],([],((0:Z),()))))))),(z,(gd,(x,(jj (e5 h) (f.flatMap aN.cX),((f.flatMap aN.cX).flatMap (e5 h),((f.flatMap aN.cX).flatMap (hE h),(del,()))))))),())) ?_ (by grind [bu]);refine bP f.length (λi b=>b=((i:Z),([],([],([],([],([],([],((0:Z),()))))))),aC a (λe=>(h e:Z)),(z,(gd,(x,(jj (e5 h) ((f.take i).flatMap aN.cX),(((f.take i).flatMap aN.cX).flatMap (e5 h),(((f.take i).flatMap aN.cX).flatMap (hE h),(del,()))))))),())) rfl ?_ ?_
 rotate_left
 ·rintro _ rfl;dsimp only;rw[C,aP (aD (aa:¬(f.length:Z)<(f.length:Z))),cm];grind [bu]
 rintro i _ q rfl;dsimp only;rw[C,aS (aI (aa:(i:Z)<(f.length:Z))),a9 aa];have w:=y _ (b1 q);have n:=L i q;have F:=Hb aN.cX q;have fz:=JB aN.cX q;have fs:=ci _ (b1 q);rw[F];generalize f[i]=b at*;generalize dl:(f.take i).flatMap aN.cX=p at*;have ds:p.length+b.cX.length<=100:=ae;have d9:∀g,b.cX.take g=(b.l.take g).map λj=>(b.rows,j):=λg=>(by grind [ape,aN.cX]);have d7:b.cX.length=b.l.length:=(by grind [b6,aN.cX]);have fr:=w.len;refine bF (P:=λs=>s=(([],([],([],([],([],([],((0:Z),()))))))),aC a (λe=>(h e:Z)),(z,(gd,(x,(jj (e5 h) (p++b.cX),((p++b.cX).flatMap (e5 h),((p++b.cX).flatMap (hE h),(del,()))))))),())) ?_ (by grind [bu]);refine bP b.aQ.length (λg s=>s=((g:Z),([],([],([],([],([],([],((0:Z),()))))))),aC a (λe=>(h e:Z)),(z,(gd,(x,(jj (e5 h) (p++b.cX.take g),((p++b.cX.take g).flatMap (e5 h),((p++b.cX.take g).flatMap (hE h),(del,()))))))),())) ?_ ?_ ?_
 ·grind
 rotate_left
 ·rintro _ rfl;dsimp only;refine bC n ?_;have t:ar (jK b).1=(b.aQ.length:Z):=(by rw[a7];exact b4 _ (fX _));rw[t,aP (aD (aa:¬(b.aQ.length:Z)<(b.aQ.length:Z))),cj aa];grind [bu]
 rintro g _ M rfl;dsimp only;refine bC n ?_;have t:ar (jK b).1=(b.aQ.length:Z):=(by rw[a7];exact b4 _ (fX _));rw[t,aS (aI (aa:(g:Z)<(b.aQ.length:Z))),a9 aa];have eq:g<b.l.length:=aa;have bl:p++b.cX.take (g+1)=(p++b.cX.take g)++[(b.rows,b.l[g])]:=(by grind [bV,ct,alG,aN.cX]);have ap:aq (jK b).2.2.2.1 (g:Z)=Y (b.rows.map b.l[g]):=(by rw[fq];show(b.l.map λj=>b.rows.map j)[g]?=_;grind);rw[bl];have S:∀v∈p++b.cX.take g,v.1.length<=100:=λv A=>ae;have R:(p++b.cX.take g).length<=100:=ae;obtain⟨cs,cv⟩:=U _ S R;generalize p++b.cX.take g=r at*;generalize b.l[g]=j at*;have O:ar (jK b).2.2.1=(b.rows.length:Z):=(by rw[a7];exact b4 _ (fX _));generalize ad:((z,(gd,(x,(jj (e5 h) r,(r.flatMap (e5 h),(r.flatMap (hE h),(del,()))))))):c3)=G;refine bF (P:=λs=>s=(([],([],([],([],([],([],((0:Z),()))))))),aC a (λe=>(h e:Z)),G,e5 h (b.rows,j),hE h (b.rows,j),())) ?_ ?_
 ·refine bP b.rows.length (λo s=>s=((o:Z),([],([],([],([],([],([],((0:Z),()))))))),aC a (λe=>(h e:Z)),G,(md h (b.rows.take o)).map (λe=>(h e:Z)),(md h (b.rows.take o)).map j,())) rfl ?_ ?_
  rotate_left
  ·rintro _ rfl;dsimp only;refine bC n ?_;rw[O,aP (aD (aa:¬(b.rows.length:Z)<(b.rows.length:Z))),cm];exact bu.2 bq
  rintro o _ D rfl;dsimp only;refine bC n ?_;rw[O,aS (aI (aa:(o:Z)<(b.rows.length:Z))),a9 aa];have av:aq (jK b).2.2.1 (o:Z)=Y ((b.rows[o]:X):Z):=nJ D;have a0:b.rows[o]<a:=amg.1 (w.sub _ (b1 D));have an:aq (b.rows.map j) (o:Z)=Y (j b.rows[o]):=(by grind [fq,bV]);refine bC n (bC av ?_);rw[zd _ a0];have ft:(md h (b.rows.take o)).length<=100:=(by grind [q4,alj]);rw[af6 h D];generalize md h (b.rows.take o)=u at*;generalize b.rows[o]=e at*;have d6:(u.takeWhile λj=>bz (h j<h e)).length<=u.length:=(aqr _).length_le;refine bC (aed h u e aa _ _ _ _) ?_;dsimp only;have fl:(u.map λe=>(h e:Z)).length=u.length:=b6 _;have fn:(u.map j).length=u.length:=b6 _;rw[<-PP h e u j,<-PP h e u λe=>(h e:Z)];refine bC (TA _ _ aa) ?_;dsimp only;rw[c9 ae,bM,c9 ae,bM];refine bC (TB _ _ aa) ?_;dsimp only;rw[c9 ae,bM];refine bC (TA _ _ aa) ?_;dsimp only;rw[c9 ae,bM];refine bC n (bC ap (bC an ?_));rw[c9 ae,bM];refine bC (TB _ _ aa) ?_;dsimp only;rw[c9 ae,bM];grind [bu]
 rintro _ rfl;subst ad;dsimp only;have em:(e5 h (b.rows,j)).length=b.rows.length:=(by grind [b6,q4,e5]);have f2:(hE h (b.rows,j)).length=b.rows.length:=(by grind [b6,q4,hE]);have f0:(jj (e5 h) r).length=r.length+1:=(by grind [b6,amf,jj]);rw[c9 aa,bM,c9 aa,bM,c9 ae,bM];simp_all [NU,a7,List.flatMap_append,bu,ax,hE,e5]
structure l4 where
 R:ak6
 full:X
 lf:ak5
 M:bp (bp fV)
def l4.enc (a:l4):bA df:=Y (cO a.R a.full a.lf a.M)
def l4.ok (a:l4):Prop:=a.lf.length=a.R.length/\a.full<=a.R.length/\a.R.length<=100
def k9 (b:bp l4):ak6:=b.flatMap λa=>fk a.R a.lf a.full
theorem Ko (b:ak6) (lf:ak5) (a:X):(fk b lf a).length<=a:=by grind [cu,alB,b6,fk]
theorem N3 {l:bp l4} (b:∀a∈l,a.ok):(k9 l).length<=100*l.length:=by
 induction l with
 |nil=>exact bg _
 |cons a l d=>
  have f:=d λc j=>b c ae;obtain⟨_,g,h⟩:=b a ac;have i:=Ko a.R a.lf a.full;have e:k9 (a::l)=fk a.R a.lf a.full++k9 l:=rfl;grind
theorem afn {l:bp l4} (e:∀a∈l,a.ok) (w:l.length<=100) {F L:X} {rows:ak7} {par:Z} (s:F<=L) (t:L<=1000) (z:L-F<=rows.length) (A:rows.length<=1000):Eg (((F:Z),((L:Z),(rows,(par,())))),l.map l4.enc,())=Y (be (k9 l++alb F (L-F))++rows.drop (L-F),((k9 l++alb F (L-F)).length:Z),()):=by
 have u:=N3 e;unfold Eg;refine bQ.1 ?_;dsimp only;refine bF (P:=λd=>d=(be (k9 l),())) ?_ ?_
 ·refine bP l.length (λc d=>d=((c:Z),be (k9 (l.take c)),())) rfl ?_ ?_
  rotate_left
  ·rintro _ rfl;dsimp only;rw[aP (aD (ae:¬(l.length:Z)<ar (l.map l4.enc))),cm];grind [bu]
  rintro c _ k rfl;dsimp only;rw[aS (aI (ae:(c:Z)<ar (l.map l4.enc))),a9 aa];have f:=e _ (b1 k);have v:=N3 (l:=l.take c) λa f=>e a (aqu f);have B:(l.take c).length<=c:=ae;have j:k9 (l.take (c+1))=k9 (l.take c)++fk l[c].R l[c].lf l[c].full:=(by grind [ct,bV,k9]);rw[j];refine bC (y:=l[c].enc) (by grind [fq,bV]) ?_;generalize l[c]=a at*;obtain⟨o,p,q⟩:=f;refine bC (y:=cO a.R a.full a.lf a.M) rfl ?_;refine bF (P:=λd=>d=(be (k9 (l.take c)++fk a.R a.lf a.full),())) ?_ (by grind [bu]);refine bP a.full (λb d=>d=((b:Z),be (k9 (l.take c)++fk a.R a.lf b),())) ?_ ?_ ?_
  ·rw[show fk a.R a.lf 0=[] from rfl,oA];rfl
  rotate_left
  ·rintro _ rfl;dsimp only;rw[aP (aD (show¬(a.full:Z)<(cO a.R a.full a.lf a.M).2.1 from apa _))];grind [bu]
  rintro b _ i rfl;dsimp only;rw[aS (aI (show(b:Z)<(cO a.R a.full a.lf a.M).2.1 by show(b:Z)<(a.full:Z);omega)),a9 aa];have g:aq (cO a.R a.full a.lf a.M).2.2.1 (b:Z)=Y (a.lf.getD b br):=(by rw[fq];show a.lf[b]?=_;grind);have h:aq (cO a.R a.full a.lf a.M).1 (b:Z)=Y ((a.R.getD b 0:X):Z):=(by rw[fq];show(a.R.map λ(n:X)=>(n:Z))[b]?=_;grind);have x:=Ko a.R a.lf b;refine bF (P:=λd=>d=(be (k9 (l.take c)++fk a.R a.lf (b+1)),())) ?_ (by grind [bu]);refine bC (y:=cO a.R a.full a.lf a.M) rfl (bC g ?_);rw[yM];cases r:a.lf.getD b br with
  |false=>
   rw[bR,aA ab];grind [bu]
  |true=>
   rw[bI,aB bq];refine bC (y:=cO a.R a.full a.lf a.M) rfl (bC h ?_);rw[c9 (by grind [fX]),aF];refine bu.2 ?_;rw[<-jd,o7 (k9 (l.take c)++fk a.R a.lf b)];rfl
 rintro _ rfl;dsimp only;refine bF (P:=λd=>d=(be (k9 l++alb F (L-F)),())) ?_ ?_
 ·refine bP (L-F) (λb d=>d=(((F+b:X):Z),be (k9 l++alb F b),())) ?_ ?_ ?_
  ·grind
  ·rintro b _ i rfl;dsimp only;rw[aS (aI (aa:((F+b:X):Z)<(L:Z))),a9 aa];rw[c9 (by grind [fX]),bM];refine bu.2 ?_;rw[aof,<-alG,o7 (k9 l++alb F b),anq];rfl
  rintro _ rfl;dsimp only;rw[aP (aD (aa:¬(((F+(L-F):X):Z)<(L:Z))))];grind [bu]
 rintro _ rfl;dsimp only;have m:az ((L:Z)-(F:Z))=((L-F:X):Z):=(by grind [cF]);rw[m];refine bC (y:=(L-F,rows.length)) ?_ ?_
 ·simp_all [aB,bg,BU,he]
 dsimp only;rw[cm,c9 (by grind [fX]),bM];grind [a7,fX,bu]
section
def Qa (R:ak6) (lf:ak5) (a:X):(fk R lf a).length=(e4 lf a).length:=by rw[F7,di]
theorem ZI (R:ak6) (lf:ak5) (d:a<b) (h:lf.getD a br=bt):(fk R lf b)[(e4 lf a).length]?=Y (R.getD a 0):=by obtain⟨e,c⟩:=Kn R lf (a+1) (b-(a+1));rw[(aa:a+1+(b-(a+1))=b)] at c;simp_all [yM,aB,jd,qe,Qa,bg,pt]
theorem Gk {R:ak6} (h:R[a]?=Y b):(be R)[a]?=Y (b:Z):=by show(R.map λ(c:X)=>(c:Z))[a]?=_;grind
theorem Lo {R:ak6} (i:R.Nodup) (j:R.length<=1000) (h:a∈R):AO (be R,(a:Z),())=Y (((R.idxOf a:X):Z),())/\R[R.idxOf a]?=Y a:=by have b:R[R.idxOf a]?=Y a:=ae;refine⟨YV (by grind [fX]) (Gk b) λc k e=>?_,b⟩;have f:c<R.length:=ae;have d:=Gk (bh f);rw[d] at e;have g:R[c]=a:=ae;grind
section
variable {R:ak6} {full:X} {lf:ak5} {h:X->X->fV}
theorem Zt (A:R.Nodup) (E:R.length<=1000) {c:ak5} {e:aZ} (t:jC l a c r e) (dl:∀b∈e.rows,b∈R) {g:X->X->ak1} (cs:∀b d,cN (g b d)):D9 (cO R full lf (gj R λb d=>aw (g b d)),Y (cO l a c r),())=Y (cO R full lf (gj R λb d=>if b∈e.rows/\d∈e.rows then aw (cQ (g b d) (e.s b d)) else aw (g b d)),()):=by
 have d6:=t.sm;have d9:=t.ll;have av:=t.rows;have dg:e.rows.Nodup:=(by rw[av];unfold fk;rw[aod,List.pairwise_map];refine(aqR ?_ ((aog (n:=l.length)).sublist List.filter_sublist));intro d3 d4 B C bx a0;exact bx ((t.inj (amg.1 (aqv.1 B).1) (amg.1 (aqv.1 C).1)).1 a0));have F:∀b,b<l.length->c.getD b br=bt->l.getD b 0∈R:=λb j m=>dl _ (t.mem j m);have M:ar (cO l a c r).1=(l.length:Z):=(by rw[a7];exact b4 _ (fX _));have c1:∀b,b<l.length->aq (cO l a c r).1 (b:Z)=Y ((l.getD b 0:X):Z):=λb j=>(by rw[fq];show(be l)[b]?=_;grind [Gk,bV]);have V:∀b,b<l.length->aq (cO l a c r).2.2.1 (b:Z)=Y (c.getD b br):=λb j=>(by rw[fq];show c[b]?=_;grind);unfold D9;refine bQ.1 ?_;dsimp only;refine bC (y:=cO l a c r) rfl ?_;rw[M,hP aa,bM];refine bC (y:=cO l a c r) rfl ?_;generalize O:cO R full lf (gj R λb d=>aw (g b d))=z;generalize d7:(λb=>if c.getD b br=bt then(R.idxOf (l.getD b 0):Z) else 0)=k;refine bF (P:=λo=>o=(z,aC l.length k,())) ?_ ?_
 ·refine bP l.length (λb o=>o=((b:Z),z,aC l.length (λh=>if h<b then k h else 0),())) ?_ ?_ ?_
  ·grind [iF]
  rotate_left
  ·rintro _ rfl;simp_all [c4,aB,bu,aP,aD,aC]
  rintro b _ j rfl;dsimp only;rw[M,aS (aI (aa:(b:Z)<(l.length:Z))),a9 aa];refine bF (P:=λo=>o=(z,aC l.length (λh=>if h<b+1 then k h else 0),())) ?_ (by grind [bu]);refine bC (c1 b j) (bC (y:=cO l a c r) rfl (bC (V b j) ?_));have an:∀J,J=k b->aC l.length (eK (λh=>if h<b then k h else(0:Z)) b J)=aC l.length λh=>if h<b+1 then k h else 0:=λJ ex=>c4 λh c2=>by
   by_cases g:h=b
   ·simp_all [gA,aB]
   rw[gT _ _ g];omega
  cases m:c.getD b br with
  |true=>
   rw[bI];have bl:z.1=be R:=(by rw[<-O];rfl);refine bC (by rw[bl];exact(Lo A E (F b j m)).1) ?_;dsimp only;rw[Hq _ j,an _ ae];grind [bu]
  |false=>
   rw[bR];refine bu.2 ?_;have a3:k b=0:=ae;have:=an 0 a3.symm;rw[<-this];have:(aC l.length λh=>if h<b then k h else(0:Z))=aC l.length (eK (λh=>if h<b then k h else(0:Z)) b 0):=c4 λh c2=>by
    by_cases g:h=b
    ·simp_all [gA,aA]
    grind [gT]
   grind
 rintro _ rfl;subst O;dsimp only;generalize co:(λb d=>aw (cQ (g b d) (e.s b d)))=p;generalize cv:(λb d=>aw (g b d))=q;have d8:(λb d=>if b∈e.rows/\d∈e.rows then aw (cQ (g b d) (e.s b d)) else aw (g b d))=g4 e.rows p q e.rows.length 0:=(by grind [I4]);have ap:e.rows.length=(e4 c l.length).length:=(by rw[av,Qa]);have T:ar (aC l.length k)=(l.length:Z):=(by rw[a7,cU]);have I:∀b,b<l.length->c.getD b br=bt->∃ek:(e4 c b).length<e.rows.length,e.rows[(e4 c b).length]=l.getD b 0:=λb j m=>(by have d5:=ZI l c j m;grind);refine bF (P:=λo=>o=(cO R full lf (gj R (g4 e.rows p q e.rows.length 0)),())) ?_ (by grind [bu]);refine bP l.length (λb o=>o=((b:Z),cO R full lf (gj R (g4 e.rows p q (e4 c b).length 0)),aC l.length k,())) ?_ ?_ ?_
 ·rw[show(e4 c 0).length=0 from rfl,I8];rfl
 rotate_left
 ·rintro _ rfl;dsimp only;rw[T,aP (aD (aa:¬(l.length:Z)<(l.length:Z))),ap];grind [bu]
 rintro b _ j rfl;dsimp only;rw[T,aS (aI (aa:(b:Z)<(l.length:Z))),a9 aa];refine bF (P:=λo=>o=(cO R full lf (gj R (g4 e.rows p q (e4 c (b+1)).length 0)),aC l.length k,())) ?_ (by grind [bu]);refine bP l.length (λd o=>o=((d:Z),cO R full lf (gj R (g4 e.rows p q (e4 c b).length (if c.getD b br=bt then(e4 c d).length else 0))),aC l.length k,())) ?_ ?_ ?_
 ·simp_all [e4]
 rotate_left
 ·rintro _ rfl;dsimp only;rw[aP (aD (aa:¬(l.length:Z)<(l.length:Z)))];refine bu.2 ?_;rw[F6];by_cases m:c.getD b br=bt
  ·rw[aB m,aB m,hq,nr,<-ap];rw[I7 (I b j m).1]
  grind
 rintro d _ u rfl;dsimp only;rw[aS (aI (aa:(d:Z)<(l.length:Z))),a9 aa];refine bF (P:=λo=>o=(cO R full lf (gj R (g4 e.rows p q (e4 c b).length (if c.getD b br=bt then(e4 c (d+1)).length else 0))),aC l.length k,())) ?_ (by grind [bu]);generalize N:gj R (g4 e.rows p q (e4 c b).length (if c.getD b br=bt then(e4 c d).length else 0))=w;refine bC (y:=(c.getD b br&&c.getD d br,cO R full lf w,aC l.length k,())) ?_ ?_
 ·refine aj (y:=cO l a c r) rfl (aj (V b j) ?_);cases m:c.getD b br with
  |true=>
   grind
  |false=>
   grind
 dsimp only;by_cases m:c.getD b br=bt
 rotate_left
 ·simp_all [aA,bu,aoA,bR]
 by_cases v:c.getD d br=bt
 rotate_left
 ·simp_all [F6,aA,bu,Bool.and_false,bR]
 rw[m,v,anP,bI];obtain⟨B,Q⟩:=I b j m;obtain⟨C,U⟩:=I d u v;rw[b9 m] at N;obtain⟨_,G⟩:=Lo A E (F b j m);obtain⟨_,H⟩:=Lo A E (F d u v);have S:k b=((R.idxOf (l.getD b 0):X):Z):=ae;have ci:k d=((R.idxOf (l.getD d 0):X):Z):=ae;have em:=(alT.1 G).1;have eq:=(alT.1 H).1;generalize R.idxOf (l.getD b 0)=d0 at*;generalize R.idxOf (l.getD d 0)=o at*;obtain⟨d1,x,fn,eD⟩:=Hc (g4 e.rows p q (e4 c b).length (e4 c d).length) G H;have D:=Md A (g4 e.rows p q (e4 c b).length (e4 c d).length) G H (p (l.getD b 0) (l.getD d 0)) x;have K:=I5 (f:=p) (g:=q) B C;rw[Q,U] at K;rw[<-K] at D;have L:=I6 (f:=p) (g:=q) dg B C;rw[Q,U] at L;rw[L] at eD;have el:w.length=R.length:=(by grind [Mc]);rw[N] at x D;have ad:=eV (n:=w.length) (i:=d0) aa;have am:=eV (n:=d1.length) (i:=o) aa;obtain⟨d2,ds,fl⟩:=t.ent b d j u m v;have ce:=Ox (cs (l.getD b 0) (l.getD d 0)) (t.okd _ (t.mem j m) _ (t.mem u v));subst co cv;have a4:(cO R full lf w).2.2.2.1=w:=rfl;rw[zd _ j,a4,S];refine bC ad ?_;rw[zd _ u,zd _ j,S];refine bC ad ?_;rw[zd _ u,ci,gh x,bM];refine bC am ?_;rw[gh x,gh eD,bM];refine bC (y:=cO l a c r) rfl (bC (y:=d2) (by rw[fq];exact ds) (bC (y:=aw (e.s (l.getD b 0) (l.getD d 0))) (by grind [fq]) (bC ce ?_)));dsimp only;refine bC am ?_;rw[gh x,gh eD];refine bu.2 ?_;dsimp only;rw[D,F6,b9 v,alr,amx,b9 bq];rfl
end
end
theorem aak (b:∀a∈c,0<=a):be (c.map alI)=c:=by
 unfold be;rw[pp]
 conv=>rhs;rw[<-List.map_id c]
 refine iL λa d=>?_;grind
theorem PO (c:X->X) (a:X) (b:ak6):(oa c a b).Perm (a::b):=by grind [aqw,oa]
theorem TH (c:X->X):∀(b a:ak6),(b.foldl (λa p=>oa c p a) a).Perm (b++a)
 |[],a=>anp _
 |p::b,a=>by rw[ans];refine(TH c b _).trans ?_;grind [List.perm_middle,anO,PO]
def CF (b:X->X) (a:ak6):(md b a).Perm a:=by have:=TH b a [];rwa[oA] at this
theorem Y0 {c:X->X} (k:f.Pairwise λb d=>c b<c d) (o:∀b∈f,c b≠c a):(oa c a f).Pairwise λb d=>c b<c d:=by
 unfold oa;have l:∀b∈f.takeWhile (λb=>bz (c b<c a)),c b<c a:=λb e=>amF (KD (p:=λb=>bz (c b<c a)) e);have m:∀b∈f.dropWhile (λb=>bz (c b<c a)),c a<c b:=by
  intro b e;have j:f.dropWhile (λb=>bz (c b<c a))≠[]:=List.ne_nil_of_mem e;have i:=aqs (λb=>bz (c b<c a)) j;rw[anU] at i;have n:(f.dropWhile λb=>bz (c b<c a)).Pairwise λb d=>c b<c d:=k.sublist (aqx _);have q:∀d∈f.dropWhile (λb=>bz (c b<c a)),d∈f:=λd h=>(aqx _).subset h;generalize f.dropWhile (λb=>bz (c b<c a))=g at*;cases g with
  |nil=>cases e
  |cons d g=>
   grind [am0]
 grind [am0,aqw]
theorem L2 {b:X->X}:∀{e d:ak6},d.Pairwise (λa c=>b a<b c)->(∀a∈d,∀c∈e,b a≠b c)->e.Pairwise (λa c=>b a≠b c)->(e.foldl (λd p=>oa b p d) d).Pairwise λa c=>b a<b c
 |[],d,f,_,_=>f
 |p::e,d,f,i,g=>by rw[ans];rw[ns] at g;refine L2 (Y0 f λa h=>i a h p ac) (λa h c j=>?_) g.2;grind [PO]
def TE {e:X->X}:∀{a b:ak6},a.Perm b->a.Pairwise (λx d=>e x<e d)->b.Pairwise (λx d=>e x<e d)->a=b
 |[],b,c,_,_=>c.nil_eq
 |x::a,[],c,_,_=>absurd c.length_eq ac
 |x::a,d::b,c,f,g=>by rw[ns] at f g;have h:x=d:=ae;subst h;rw[TE (List.perm_cons x|>.1 c) f.2 g.2]
theorem pw.key (a:Z->Z):pw λd e=>bz (a d<a e):=⟨λb c g=>by grind,λb c f h i=>by grind⟩
def Y1 (c:ak7) (a b:Z) (d:bA aM) (e:bA eO):IT (c,a,b,(d,e,()),())=FV (λf g=>vA (f,g,d,e,())) c a b:=rfl
def ad0 (a:ak7) (e:Z) (c:bA aM) (d:bA eO) (i:a.length<=12) {b:ak7×bw} (f:FV (λg h=>vA (g,h,c,d,())) a 0 (a.length:Z)=Y b):EE (a,0,(a.length:Z),e,(c,d,()),())=Y b:=by obtain⟨b,_⟩:=b;unfold EE;dsimp only;rw[Qk];dsimp only;rw[aS (aI (show az ((a.length:Z)-0)<=12 by rw[anX,cF aa aa];omega)),Y1,f];rfl
def WH {e:X->X} (j:∀d∈f,d<a) (g:b<f.length) (i:h<f.length):vA ((b:Z),(h:Z),Y (aC a λd=>(e d:Z)),Y (be f,c,()),())=Y (fo (e f[b]:Z) (e f[h]:Z),()):=by unfold vA;refine aj (y:=aC a λd=>(e d:Z)) rfl (aj (y:=(be f,c,())) rfl (aj (nJ g) (aj (r7 (j _ (cK g))) ?_)));refine aj (y:=aC a λd=>(e d:Z)) rfl (aj (y:=(be f,c,())) rfl (aj (nJ i) (aj (r7 (j _ (cK i))) ?_)));exact aj (DA _ _) rfl
theorem WJ:fo d k<0↔d<k:=by grind [fo]
theorem af1 {n:X} {f:X->X} {rows:ak6} (N:∀g∈rows,g<n) (M:rows.length<=12) (o:rows.Pairwise λd c=>f d≠f c) (w:ak7):∃b:ak6,EB (be (bK rows.length),(Y (aC n λg=>(f g:Z)),Y (be rows,w,()),()),())=Y (be b,())/\(∀a∈b,a<rows.length)/\b.length=rows.length/\b.map (λa=>rows.getD a 0)=md f rows:=by
 have s:(be (bK rows.length)).length=rows.length:=(by rw[fX,mr]);obtain⟨⟨b,⟨⟩⟩,G,y,C,B,e⟩:=YY (cmp:=λh x=>vA (h,x,Y (aC n λg=>(f g:Z)),Y (be rows,w,()),())) (pw.key λh=>(f (rows.getD h.toNat 0):Z)) (be (bK rows.length)) (by
  intro h x j I;obtain⟨d,l,rfl⟩:=e1.1 j;obtain⟨c,m,rfl⟩:=e1.1 I;simp_all [k2,bh,WJ,alD,WH,hN]) aa
 dsimp only at C e;obtain⟨c,m⟩:=MU rows.length aa;have P:b=be (b.map alI):=(aak λh j=>by
  obtain⟨Q,_,rfl⟩:=e1.1 (e.mem_iff.1 j);omega).symm
 have F:(b.map alI).Perm (bK rows.length):=(by have:=e.map alI;rwa[show(be (bK rows.length)).map alI=bK rows.length by simp[be,Function.comp_def]] at this);have D:∀a∈b.map alI,a<rows.length:=λa i=>amg.1 (F.mem_iff.1 i);have E:(b.map alI).map (λa=>rows.getD a 0)=md f rows:=(by have J:((bK rows.length).map λa=>rows.getD a 0)=rows:=(by refine List.ext_getElem? λa=>?_;grind);have k:((b.map alI).map λa=>rows.getD a 0).Perm rows:=ae;have t:((b.map alI).map λa=>rows.getD a 0).Pairwise λd c=>f d≠f c:=(k.symm.pairwise o λz=>z.symm);refine TE (k.trans (CF f rows).symm) ?_ (L2 amZ (λd l=>by cases l) o);rw[ala] at t|-;intro u v p r q;have O:b.length=rows.length:=(by rw[e.length_eq,s]);have K:=t u v p r q;simp only[b6] at p r;have A:=B u v q aa;rw[anU] at A;have L:∀a,(i:a<b.length)->y a=b[a]:=λa i=>(by grind [al6,h0,bV,aC,be,bK]);grind);refine⟨b.map alI,?_,D,by rw[b6,e.length_eq,s],E⟩;unfold EB;have H:aR (ar (be (bK rows.length)))=(rows.length:Z):=(by grind [Mx,a7]);dsimp only;rw[H];refine aj m ?_;dsimp only;rw[a7];refine aj (ad0 _ c _ _ aa G) ?_;grind
def il (a:iB):eO:=(be a.1,a.1.map a.2,())
theorem ad6 (bl:c.length=a) (em:a<=12) {r:bp aN} (F:(r.flatMap aN.aQ).Perm (bK a)) (G:∀m∈r,sQ (bK a) m) (del:Z) (co:bA (Z×((bp aM×bw)×(bp (bA (bp (Z×cP)×X))×bw)))):Ei (Y (co,(be (r.flatMap aN.aQ),(r.map (λm=>(m.aQ.length:Z)),(r.flatMap (·.d),((r.flatMap aN.cX).map il,(del,())))))),c,())=Y (n3 c r del,()):=by
 obtain⟨fp,fr,fs⟩:=Cc G;have T:(r.flatMap aN.aQ).length=a:=(by rw[F.length_eq,amf]);have d5:(r.flatMap aN.aQ).Nodup:=F.nodup_iff.2 aog;have I:∀g,g∈r.flatMap aN.aQ↔g<a:=λg=>(by rw[F.mem_iff,amg]);have C:∀t∈r.flatMap aN.cX,t.1.Nodup/\∀p∈t.1,p<a:=λt u=>(by obtain⟨m,N,u⟩:=aqt.1 u;obtain⟨k,_,rfl⟩:=apb.1 u;exact⟨(G m N).nd,λp x=>amg.1 ((G m N).sub p x)⟩);unfold Ei n3;refine bQ.1 ?_;dsimp only;generalize d4:r.flatMap aN.aQ=j at*;generalize d2:r.flatMap aN.cX=i at*;generalize r.map (λm=>(m.aQ.length:Z))=gd;generalize r.flatMap (·.d)=v;rw[show ar c=(a:Z) by rw[a7,bl],hP aa,bM,bM,bM,bM,bM];dsimp only;have U:ar (be j)=(a:Z):=(by rw[a7,fX,T]);refine bF (P:=λm=>m=(([],([],([],([],([],([],((0:Z),()))))))),aC a (λg=>(j.idxOf g:Z)),(j.map (λg=>c.getD g 0),(gd,(v,([0],(([]:aM),(([]:aM),(del,()))))))),())) ?_ ?_
 ·refine bP a (λb m=>m=((b:Z),([],([],([],([],([],([],((0:Z),()))))))),aC a (λg=>if g∈j.take b then(j.idxOf g:Z) else 0),((j.take b).map (λg=>c.getD g 0),(gd,(v,([0],(([]:aM),(([]:aM),(del,()))))))),())) ?_ ?_ ?_
  ·grind [iF,c4]
  ·rintro b _ B rfl;dsimp only;have M:b<j.length:=aa;rw[U,aS (aI (aa:(b:Z)<(a:Z))),a9 aa];have bx:j[b]<a:=(I _).1 (b1 M);have a3:j.idxOf j[b]=b:=by
    grind
   refine bC (nJ M) ?_;rw[Hq _ bx];refine bC (gw aa) ?_;rw[c9 ae,aF];refine bu.2 ?_;have ax:j.take (b+1)=j.take b++[j[b]]:=ag;have d0:(aC a (eK (λg=>if g∈j.take b then(j.idxOf g:Z) else 0) j[b] (b:Z)))=aC a λg=>if g∈j.take (b+1) then(j.idxOf g:Z) else 0:=by
    refine c4 λg eq=>?_;rw[ax];by_cases A:g=j[b]
    ·rw[A,gA,aB (lw _ (fH.2 bq)),a3]
    grind [gT,ak9]
   grind
  rintro _ rfl;simp_all [c4,aB,bu,aP,aD,fD,aC]
 rintro _ rfl;dsimp only;have el:∀k z,k<a->z<a->j.idxOf k=j.idxOf z->k=z:=λk z V d7 dl=>(by have S:=aoh (List.idxOf_lt_length_iff.2 ((I k).2 V));grind);generalize am:(λg=>j.idxOf g)=h at*;have an:(λg=>(j.idxOf g:Z))=λg=>(h g:Z):=ae;have d9:∀g,j.idxOf g=h g:=λg=>(by rw[<-am]);rw[an];generalize j.map (λg=>c.getD g 0)=y;rw[bM];dsimp only;have J:ar (i.map il)=(i.length:Z):=ae;have ce:∀t∈i,t.1.length<=12:=λt u=>(by have:=(C t u).1.length_le_of_subset (l₂:=bK a) λp x=>amg.2 ((C t u).2 p x);grind);have ad:∀q:bp iB,(∀t∈q,t∈i)->q.length<=100->(q.flatMap (e5 h)).length<=10000/\(q.flatMap (hE h)).length<=10000:=λq S d1=>(by grind [FC,b6,q4,hE,e5]);refine bF (P:=λm=>m=(([],([],([],([],([],([],((0:Z),()))))))),(y,(gd,(v,(jj (e5 h) i,(i.flatMap (e5 h),(i.flatMap (hE h),(del,()))))))),())) ?_ (by grind [bu]);refine bP i.length (λb m=>m=((b:Z),([],([],([],([],([],([],((0:Z),()))))))),aC a (λg=>(h g:Z)),(y,(gd,(v,(jj (e5 h) (i.take b),((i.take b).flatMap (e5 h),((i.take b).flatMap (hE h),(del,()))))))),())) rfl ?_ ?_
 rotate_left
 ·rintro _ rfl;dsimp only;rw[J,aP (aD (aa:¬(i.length:Z)<(i.length:Z))),cm];grind [bu]
 rintro b _ B rfl;dsimp only;rw[J,aS (aI (aa:(b:Z)<(i.length:Z))),a9 aa];have K:=b1 B;have a4:i.take (b+1)=i.take b++[i[b]]:=ag;have ap:aq (i.map il) (b:Z)=Y (il i[b]):=(by grind [fq,bV]);obtain⟨c2,dg⟩:=ad (i.take b) (λt u=>aqu u) ae;have w:=C _ K;have D:=ce _ K;have fl:(jj (e5 h) (i.take b)).length<=1000:=(by grind [b6,amf,alj,jj]);have ex:=NU (e5 h) (i.take b) i[b];rw[a4];generalize i[b]=t at*;generalize i.take b=q at*;refine bC ap ?_;obtain⟨e,k⟩:=t;have D:e.length<=12:=D;have w:e.Nodup/\∀p∈e,p<a:=w;have ci:ar (il (e,k)).1=(e.length:Z):=(by rw[a7];exact b4 _ (fX _));rw[ci,hP aa,bM];have O:ar (bJ e.length (0:Z))=(e.length:Z):=ae;generalize d8:((y,(gd,(v,(jj (e5 h) q,(q.flatMap (e5 h),(q.flatMap (hE h),(del,()))))))):c3)=H;refine bF (P:=λm=>m=(([],([],([],([],([],([],((0:Z),()))))))),aC a (λg=>(h g:Z)),H,il (e,k),be (bK e.length),())) ?_ ?_
 ·refine bP e.length (λp m=>m=((p:Z),([],([],([],([],([],([],((0:Z),()))))))),aC a (λg=>(h g:Z)),H,il (e,k),aC e.length (λb=>if b<p then(b:Z) else 0),())) ?_ ?_ ?_
  ·grind [iF]
  ·rintro p _ x rfl;dsimp only;rw[O,aS (aI (aa:(p:Z)<(e.length:Z))),a9 aa,Hq _ x];refine bu.2 ?_;have:aC e.length (eK (λb:X=>if b<p then(b:Z) else 0) p (p:Z))=aC e.length λb=>if b<p+1 then(b:Z) else 0:=c4 λb _=>by
    by_cases A:b=p
    ·subst A;rw[gA,aB aa]
    rw[gT _ _ A];omega
   grind
  rintro _ rfl;dsimp only;rw[O,aP (aD (aa:¬(e.length:Z)<(e.length:Z)))];refine bu.2 ?_;have:(aC e.length λb:X=>if b<e.length then(b:Z) else 0)=be (bK e.length):=c4 λb B=>b9 B;grind
 rintro _ rfl;dsimp only;obtain⟨s,cs,cv,c1,aU⟩:=af1 (n:=a) (f:=h) (rows:=e) w.2 D (by
  refine sH ?_ w.1;grind) (e.map k)
 refine bC cs ?_;dsimp only;have R:ar (be s)=(e.length:Z):=(by rw[a7,fX,c1]);have d3:∀o,o<s.length->(e5 h (e,k))[o]?=Y (h (e.getD (s.getD o 0) 0):Z):=λo L=>(by grind [bV,e5]);have d6:∀o,o<s.length->(hE h (e,k))[o]?=Y (k (e.getD (s.getD o 0) 0)):=λo L=>(by grind [bV,hE]);have ek:(e5 h (e,k)).length=e.length:=(by grind [b6,q4,e5]);have fn:(hE h (e,k)).length=e.length:=(by grind [b6,q4,hE]);refine bF (P:=λm=>m=(([],([],([],([],([],([],((0:Z),()))))))),aC a (λg=>(h g:Z)),(y,(gd,(v,(jj (e5 h) q,(q.flatMap (e5 h)++e5 h (e,k),(q.flatMap (hE h)++hE h (e,k),(del,()))))))),())) ?_ ?_
 ·refine bP e.length (λo m=>m=((o:Z),([],([],([],([],([],([],((0:Z),()))))))),aC a (λg=>(h g:Z)),(y,(gd,(v,(jj (e5 h) q,(q.flatMap (e5 h)++(e5 h (e,k)).take o,(q.flatMap (hE h)++(hE h (e,k)).take o,(del,()))))))),il (e,k),be s,())) ?_ ?_ ?_
  ·grind
  ·rintro o _ L rfl;dsimp only;have E:o<s.length:=aa;rw[R,aS (aI (aa:(o:Z)<(e.length:Z))),a9 aa,qX E];have Q:=cv _ (b1 E);have av:aq (il (e,k)).1 ((s[o]:X):Z)=Y ((e[s[o]]:X):Z):=nJ Q;have a0:aq (il (e,k)).2.1 ((s[o]:X):Z)=Y (k e[s[o]]):=by
    rw[fq];show(e.map k)[s[o]]?=_;grind
   refine bC av ?_;rw[zd _ (w.2 _ (cK Q)),c9 ae,aF];refine bC a0 ?_;rw[c9 ae,aF];refine bu.2 ?_;have ds:e.getD (s.getD o 0) 0=e[s[o]]:=(by rw[k2 (l:=s),bh E];grind);grind [alG,ct]
  rintro _ rfl;dsimp only;rw[R,aP (aD (aa:¬(e.length:Z)<(e.length:Z))),cj aa,cj aa];grind [bu]
 rintro _ rfl;dsimp only;rw[c9 ae,bM];grind [a7,bu]
section
def Qc (b:ak6):∀{a},a<=b.length->fk b (bJ b.length bt) a=b.take a:=by
 intro a
 induction a with
 |zero=>intro _;rfl
 |succ a c=>
  intro d;rw[yM,c aa,aB ae,hA,bh aa,k2,bh aa];rfl
theorem jC.start {a:aZ} (b:k1 a) (g:a.rows.length<=1000):jC a.rows a.full (bJ a.rows.length bt) (gj a.rows λc d=>aw (a.s c d)) a where
 ll:=rp ..
 nd:=b.nd
 sm:=g
 fl:=b.full
 rows:=by rw[Qc _ (bg _),gC]
 full:=by rw[Qc _ b.full,gu];have:=b.full;omega
 okd:=b.okd
 ent:=λc d e f _ _=>by obtain⟨j,h,_,i⟩:=Hc (λc d=>aw (a.s c d)) (bh e) (bh f);grind
section
variable {G:akW} {l:bp eE} {n t:X} {L:X->aZ} {ps:bp aN} {A:X->X->ak1}
theorem Xp (d:iW n l t):(g6 l (t:Z)).drop (gG l t)=be (lp l t):=by
 refine ig λa=>?_;have c:(be (lp l t))[a]?=((lp l t)[a]?).map λ(b:X)=>(b:Z):=(by show((lp l t).map λ(b:X)=>(b:Z))[a]?=_;grind);rw[qf,c];unfold lp;rw[jQ];by_cases e:gG l t+a<h2 l t
 ·rw[d.get _ e,List.getElem?_range' aa];simp
 grind [amJ,apf,h2]
structure M3 (n:X) (c:l4) (y:aZ):Prop where
 r:jC c.R c.full c.lf c.M y
 len:c.R.length<=n
theorem V8 (M:gU G l) (T:G.length=n) (a0:t<l.length) (J:kr l n t L ps) (S:∀b d,cN (A b d)) (fp:n<=64) {x:X->l4} (K:∀e,e<t->M3 n (x e) (L e)) (bx:∀b d:X,b<n->d<n->vR (q,(b:Z),(d:Z),())=Y (aw (A b d),())):D7 (q,((bk l t:Z),(bk l (t+1):Z),g6 l (t:Z),gH l t,()),(eJ l t t).map (λe=>(x e).enc),())=Y (cO (h6 A l L t).rows (h6 A l L t).full (bJ (h6 A l L t).rows.length bt) (gj (h6 A l L t).rows λb d=>aw ((h6 A l L t).s b d)),0,()):=by
 have u:=iW.of M T a0;have ex:l.length<=n:=(by have:=FG M;omega);have ad:=xH A L t (l:=l);have U:∀b∈(h6 A l L t).rows,b<n:=λb m=>J.Ae A u m;have d6:=J.Du A S u;have N:=(J.ve S u).nd;have d8:=u.xR;have fs:=u.own;have O:∀e∈eJ l t t,e<t:=λe D=>(BO.1 D).1;have d9:(eJ l t t).length<=t:=(by grind [cu,alB,eJ]);have dl:(bk l (t+1)-bk l t)=gG l t:=rfl;have Q:=afn (l:=(eJ l t t).map x) (F:=bk l t) (L:=bk l (t+1)) (rows:=g6 l (t:Z)) (par:=gH l t) (λe D=>by
  obtain⟨c,B,rfl⟩:=e1.1 D;have:=K c (O c B);exact⟨this.r.ll,this.r.fl,by have:=this.len;omega⟩) ae aa aa (by have:=u.QY;grind [h2]) (by have:=u.C9;grind [h2])
 have co:k9 ((eJ l t t).map x)=(eJ l t t).flatMap λe=>(L e).rows.take (L e).full:=(by unfold k9;rw[List.flatMap_map];refine Pe λe D=>?_;exact(K e (O e D)).r.take.symm);rw[List.map_map,co,dl,Xp u] at Q;have ax:be ((eJ l t t).flatMap (λe=>(L e).rows.take (L e).full)++alb (bk l t) (gG l t))++be (lp l t)=be (h6 A l L t).rows:=(by rw[<-o7,ad.1];rfl);have a4:((eJ l t t).flatMap (λe=>(L e).rows.take (L e).full)++alb (bk l t) (gG l t)).length=(h6 A l L t).full:=ad.2.symm;rw[ax,a4] at Q;unfold D7;refine bQ.1 ?_;refine bC Q ?_;dsimp only;generalize d5:(h6 A l L t).rows=a at*;generalize em:(h6 A l L t).full=j at*;have ce:ar (be a)=(a.length:Z):=(by rw[a7,fX]);rw[ce,aP (aD (aa:¬(a.length:Z)>64)),hP aa,bM,bM];generalize a3:bJ a.length ((br,((br,(([]:ak7),())),((0:Z),()))):cP)=p;refine bF (P:=λi=>i=(cO a j (bJ a.length bt) (gj a λ_ _=>aw (Y 0)),())) ?_ ?_
 ·refine bP a.length (λb i=>i=((b:Z),cO a j (aC a.length λc=>bz (c<b)) (aC a.length λc=>if c<b then p else[]),())) ?_ ?_ ?_
  ·have z:(aC a.length λc=>bz (c<0))=bJ a.length br:=(by grind [c4,alM,iF]);have H:(aC a.length λc=>if c<0 then p else[])=bJ a.length []:=(by simp_all [c4,aA,iF]);rw[z,H];rfl
  ·rintro b _ m rfl;dsimp only;rw[aS (aI (aa:(b:Z)<(a.length:Z))),a9 aa,bM];have c1:(cO a j (aC a.length λc=>bz (c<b)) (aC a.length λc=>if c<b then p else[])).2.2.1=aC a.length λc=>bz (c<b):=rfl;rw[c1];refine bC (eV (by grind [cU])) ?_;rw[gh (h0 m),ha];refine bC bq ?_;dsimp only;have c2:(cO a j (aC a.length λc=>bz (c<b)) (aC a.length λc=>if c<b then p else[])).2.2.2.1=aC a.length λc=>if c<b then p else[]:=rfl
   rw[c2];refine bC (eV (by grind [cU])) ?_;rw[gh (h0 m),ha];refine bC bq ?_;refine bu.2 ?_;have z:aC a.length (eK (λc=>bz (c<b)) b bt)=aC a.length λc=>bz (c<b+1):=c4 λc _=>by
    by_cases v:c=b
    ·grind [gA,alc]
    rw[gT _ _ v,cy];omega
   have H:aC a.length (eK (λc=>if c<b then p else[]) b p)=aC a.length λc=>if c<b+1 then p else[]:=c4 λc _=>by
    by_cases v:c=b
    ·simp_all [gA,aB]
    rw[gT _ _ v];grind
   rw[a3,z,H];rfl
  rintro _ rfl;dsimp only;rw[aP (aD (aa:¬(a.length:Z)<(a.length:Z)))];refine bu.2 ?_;have z:(aC a.length λc=>bz (c<a.length))=bJ a.length bt:=(by grind [c4,alc,iF]);have H:(aC a.length λc=>if c<a.length then p else[])=gj a λ_ _=>aw (Y 0):=(by have bl:(aC a.length λc=>if c<a.length then p else[])=aC a.length λ_=>p:=c4 λc B=>b9 B;have I:p=a.map λ_=>aw (Y 0):=(by rw[<-a3];exact(ao5 ..).symm);rw[bl,O4 a λ_=>p,I];rfl);grind
 rintro _ rfl;dsimp only;generalize eq:bJ a.length bt=lf;refine bF (P:=λi=>i=(cO a j lf (gj a λb d=>aw (iN A l t b d)),())) ?_ ?_
 ·generalize an:(λb d=>aw (iN A l t b d))=h;generalize cv:(λ(_ _:X)=>aw (Y 0))=k;have cs:gj a h=gj a (g4 a h k a.length 0):=by
   rw[I4];simp_all [TX,aB]
  rw[cs];refine bP a.length (λb i=>i=((b:Z),cO a j lf (gj a (g4 a h k b 0)),())) ?_ ?_ ?_
  ·rw[I8];rfl
  rotate_left
  ·rintro _ rfl;dsimp only;rw[aP (aD (aa:¬(a.length:Z)<(a.length:Z)))];grind [bu]
  rintro b _ m rfl;dsimp only;rw[aS (aI (aa:(b:Z)<(a.length:Z))),a9 aa];refine bF (P:=λi=>i=(cO a j lf (gj a (g4 a h k b a.length)),())) ?_ (by grind [bu,I7]);refine bP a.length (λd i=>i=((d:Z),cO a j lf (gj a (g4 a h k b d)),())) rfl ?_ ?_
  rotate_left
  ·rintro _ rfl;dsimp only;rw[aP (aD (aa:¬(a.length:Z)<(a.length:Z)))];grind [bu]
  rintro d _ w rfl;dsimp only;rw[aS (aI (aa:(d:Z)<(a.length:Z))),a9 aa];refine bF (P:=λi=>i=(cO a j lf (gj a (g4 a h k b (d+1))),())) ?_ (by grind [bu]);have fr:=I6 (f:=h) (g:=k) N m w;have av:=I5 (f:=h) (g:=k) m w;obtain⟨ft,R,fz,eD⟩:=Hc (g4 a h k b d) (bV m) (bV w);have I:=Md N (g4 a h k b d) (bV m) (bV w) (h a[b] a[d]) R;rw[<-av] at I;have fn:(gj a (g4 a h k b d)).length=a.length:=Mc _ _;have d0:h a[b] a[d]=k a[b] a[d]->gj a (g4 a h k b d)=gj a (g4 a h k b (d+1)):=λek=>(by rw[av];refine TX λd3 _ d4 _=>?_;grind);generalize d7:gj a (g4 a h k b d)=E at*;have V:(cO a j lf E).1=be a:=rfl;have ci:(cO a j lf E).2.2.2.1=E:=rfl;rw[V,qX m,qX w];have dg:(if((a[d]:X):Z)<((a[b]:X):Z) then((a[d]:X):Z) else((a[b]:X):Z))=((min a[b] a[d]:X):Z):=aa;rw[dg];refine bC (y:=(bz (bk l t<=min a[b] a[d]/\min a[b] a[d]<bk l (t+1)),cO a j lf E,())) ?_ ?_
  ·by_cases v:bk l t<=min a[b] a[d]
   ·rw[aS ae];rw[cy.2 (aa:((min a[b] a[d]:X):Z)<(bk l (t+1):Z)↔bk l t<=min a[b] a[d]/\min a[b] a[d]<bk l (t+1))]
   grind
  dsimp only;by_cases v:bk l t<=min a[b] a[d]/\min a[b] a[d]<bk l (t+1)
  ·rw[aS (aI v),ci];have d2:aw (A a[b] a[d])=h a[b] a[d]:=(by rw[<-an];dsimp only;unfold iN;grind);refine bC (eV aa) ?_;rw[V,qX m,qX w];refine bC (bx _ _ (U _ (b1 m)) (U _ (b1 w))) ?_;dsimp only;rw[gh R,bM];refine bC (eV aa) ?_;rw[gh R,gh eD,d2];refine bC bq ?_;refine bu.2 ?_;dsimp only;rw[I];rfl
  rw[aP (aD v)];refine bu.2 ?_;rw[d0 (by rw[<-an,<-cv];dsimp only;unfold iN;grind)]
 rintro _ rfl;dsimp only;have el:∀C:ak6,(C.foldl (λo e=>o.plus (L e)) (kw A l L t)).rows=a:=λC=>(by simp_all [Ca,kw]);have ds:∀(C:ak6) b d,cN ((C.foldl (λo e=>o.plus (L e)) (kw A l L t)).s b d):=λC=>GK L _ _ λb d=>by
  show cN (if _ then _ else _);split
  ·grind
  exact wE
 refine bF (P:=λi=>i=(cO a j lf (gj a λb d=>aw ((h6 A l L t).s b d)),())) ?_ (by grind [bu]);have am:ar ((eJ l t t).map λe=>(x e).enc)=((eJ l t t).length:Z):=ae;refine bP (eJ l t t).length (λc i=>i=((c:Z),cO a j lf (gj a λb d=>aw ((((eJ l t t).take c).foldl (λo e=>o.plus (L e)) (kw A l L t)).s b d)),())) rfl ?_ ?_
 rotate_left
 ·rintro _ rfl;dsimp only;rw[am,aP (aD (aa:¬((eJ l t t).length:Z)<((eJ l t t).length:Z))),cm];exact bu.2 bq
 rintro c _ B rfl;dsimp only;rw[am,aS (aI (aa:(c:Z)<((eJ l t t).length:Z))),a9 aa];have ap:=b1 B;refine bC (y:=(x (eJ l t t)[c]).enc) (by grind [fq,bV]) ?_;have d1:∀b∈(L (eJ l t t)[c]).rows,b∈a:=λb m=>(by have:=J.child A M T a0 ap m;grind);have z:=Zt (full:=j) (lf:=lf) N aa (K _ (O _ ap)).r d1 (g:=(((eJ l t t).take c).foldl (λo e=>o.plus (L e)) (kw A l L t)).s) (ds _);refine bC z ?_;refine bu.2 ?_;rw[ct,bV B,aqq];have:(λb d=>if b∈(L (eJ l t t)[c]).rows/\d∈(L (eJ l t t)[c]).rows then aw (cQ ((((eJ l t t).take c).foldl (λo e=>o.plus (L e)) (kw A l L t)).s b d) ((L (eJ l t t)[c]).s b d)) else aw ((((eJ l t t).take c).foldl (λo e=>o.plus (L e)) (kw A l L t)).s b d))=λb d=>aw (((((eJ l t t).take c).foldl (λo e=>o.plus (L e)) (kw A l L t)).plus (L (eJ l t t)[c])).s b d):=(by funext b d;show _=aw (if _ then _ else _);grind);simp_all
end
end
def zc (l:Z->bA (cP×bw)) (r:bA df) (f:aM) (q:cP):bA (eO×fg×Z×bw):=
 (loop (σ:=(Z×eO×eO×fg×bw)) (ρ:=((eO×eO×fg×bw)⊕(eO×fg×Z×bw))) (λ(e,h,a,d,_)=>
  bif bz (e<ar f) then
 (aq f e).bind λi=>
 (l i).bind λ(o,_)=>
 (td (o,q,0,())).bind λ(b,_)=>
 (pG (b,())).bind λ(p,_)=>
  bif !p then
 Y (.inr (.inr (a,[],233,()))) else
  r.bind λs=>
 (aq s.1 i).bind λc=>
 (cI ((a.1).length+([c]).length)).bind λ_=>
 (cI ((a.2.1).length+([b]).length)).bind λ_=>
 (ld (b,())).bind λ(g,_)=>
 (cI (d.length+([g]).length)).bind λ_=>
 Y (.inl (aO e,h,(((a.1++[c]),a.2).1,((((a.1++[c]),a.2).2.1++[b]),((a.1++[c]),a.2).2.2)),(d++[g]),())) else
 Y (.inr (.inl (h,a,d,())))) (0,([],([],())),([],([],())),[],())).bind λm=>match m with
 |.inl (_,j,k,_)=>(
 Y (j,k,0,()))
 |.inr n=>Y n
def aep (c:bA df) (a:aM) (b:cP):IE (c,a,(),b,())=zc (λd=>Ef (d,())) c a b:=rfl
def aeq (e:bA df) (c:aM) (d:cP) (a:bA (bA df)) (b:ak1):IF (e,c,(a,b,()),d,())=zc (λf=>Ee (f,a,b,())) e c d:=rfl
def aer (g:bA df) (e:aM) (f:cP) (a:bA (bA (bA df)×bw)) (b c:ak1) (d:bA fg):IG (g,e,(a,b,c,d,()),f,())=zc (λh=>Eb (h,a,b,c,d,())) g e f:=rfl
def aes (g:bA df) (e:aM) (f:cP) (a:bA (bA (bA df)×bw)) (b c:ak1) (d:bA fg):IH (g,e,(a,b,c,d,()),f,())=zc (λh=>Ec (h,a,b,c,d,())) g e f:=rfl
def rI (b:ak6) (a:ak6) (c:X->Z):eO:=(be (a.map λd=>b.getD d 0),a.map c,())
theorem GN {lf:ak5} (z:l.length<=1000) {i:Z->bA (cP×bw)} {v:X->ak1} (q:cN x) (o:∀b∈f,b<l.length/\cN (v b)/\i (b:Z)=Y (aw (v b),())) (B:f.length<=1000):ah (zc i (Y (cO l a lf r)) (be f) (aw x)) λj=>((∀b∈f,cH (gN (v b) x 0)≠2047)/\j=(rI l f λb=>gN (v b) x 0,f.map (λb=>aw (a6 (gN (v b) x 0))),0,()))\/((∃b∈f,cH (gN (v b) x 0)=2047)/\j.2.2.1=233):=by
 have h:ar (be f)=(f.length:Z):=(by rw[a7,fX]);unfold zc;refine bF (P:=λd=>((∀b∈f,cH (gN (v b) x 0)≠2047)/\d=.inl (([],([],())),rI l f λb=>gN (v b) x 0,f.map (λb=>aw (a6 (gN (v b) x 0))),()))\/((∃b∈f,cH (gN (v b) x 0)=2047)/\∃k,d=.inr (k,[],233,()))) ?_ ?_
 ·refine bP f.length (λc d=>(∀b∈f.take c,cH (gN (v b) x 0)≠2047)/\d=((c:Z),([],([],())),rI l (f.take c) λb=>gN (v b) x 0,(f.take c).map (λb=>aw (a6 (gN (v b) x 0))),())) ⟨ac,bq⟩ ?_ ?_
  ·rintro c _ g ⟨e,rfl⟩;dsimp only;rw[h,aS (aI (aa:(c:Z)<(f.length:Z))),a9 aa];have p:=b1 g;obtain⟨w,m,n⟩:=o _ p;have C:(f.take c).length<=1000:=ae;have s:f.take (c+1)=f.take c++[f[c]]:=ag;refine bC (nJ g) (bC n (bC (Yg m q) (bC (FW (wJ 0)) ?_)));dsimp only;by_cases u:cH (gN (v f[c]) x 0)=2047
   ·rw[aS ae];grind [bu]
   rw[aP ae];refine bC (y:=cO l a lf r) rfl (bC (y:=((l.getD f[c] 0:X):Z)) ?_ ?_)
   ·rw[fq];exact Gk ae
   have ax:(rI l (f.take c) λb=>gN (v b) x 0).1.length<=1000:=(by show(be _).length<=1000;grind [fX,b6]);have t:(rI l (f.take c) λb=>gN (v b) x 0).2.1.length<=1000:=(by show((f.take c).map _).length<=1000;grind);rw[c9 ae,bM,c9 ae,bM];refine bC (qT (wJ 0)) ?_;dsimp only;rw[c9 ae,bM];refine bu.2 ⟨λb A=>?_,?_⟩
   ·grind
   unfold rI;rw[s,iK,iK,iK,o7];rfl
  rintro _ ⟨e,rfl⟩;dsimp only;rw[cm] at e;rw[h,aP (aD (aa:¬(f.length:Z)<(f.length:Z))),cm];grind [bu]
 grind [bu]
section
def xc (c:X) (x:aZ):Prop:=∀a:X,a=65536->∀b∈x.rows,∀d∈x.rows,bf a 3222 3072 c (x.s b d)
structure jc (R:ak6) (full:X) (lf:ak5) (E:X->X->fV) (x:aZ) (c:X):Prop where
 r:jC R full lf (eQ R.length E) x
 ex:xc c x
section
variable {R:ak6} {full:X} {lf lf':ak5} {E:X->X->fV} {x:aZ} {c:X}
theorem jc.e (d:jc R full lf E x c) (f:a<R.length) (g:b<R.length) (h:lf.getD a br=bt) (i:lf.getD b br=bt):E a b=aw (x.s (R.getD a 0) (R.getD b 0)):=by obtain⟨l,j,k⟩:=d.r.ent a b f g h i;grind [al6,h0,eQ]
theorem jC.rest (b:jC R full lf r x) {p:ak6} (h:∀a∈p,a<full) (g:∀a,a<R.length->lf'.getD a br=(lf.getD a br&&bz (a∉p))) {i:X} (l:i<=R.length):fk R lf' i=(fk R lf i).filter λd=>bz (d∉p.map λa=>R.getD a 0):=by
 have k:=b.fl;unfold fk;rw[apc,C3];congr 1;refine qc λa c=>?_;have c:=hN.1 c;rw[g a aa,Bool.and_comm];congr 1;show _=bz (R.getD a 0∉p.map λa=>R.getD a 0);refine cy.2 (not_congr ?_);rw[e1];constructor
 ·grind
 rintro⟨j,f,e⟩;have m:=h j f;have:=(b.inj (i:=j) (j:=a) aa aa).1 e;grind
theorem jc.next (b:jc R full lf E x c) {p:ak6} (B:∀a∈p,a<full/\lf.getD a br=bt) (A:p.Nodup) (z:lf'.length=lf.length) (o:∀a,a<R.length->lf'.getD a br=(lf.getD a br&&bz (a∉p))) {E':X->X->fV} {c':X} (D:∀d e,d<R.length->e<R.length->lf'.getD d br=bt->lf'.getD e br=bt->E' d e=aw ((x.elim (p.map λa=>R.getD a 0)).s (R.getD d 0) (R.getD e 0))) (C:xc c' (x.elim (p.map λa=>R.getD a 0))):jc R full lf' E' (x.elim (p.map λa=>R.getD a 0)) c':=by
 have m:=b.r.fl;have f:∀a∈p,a<full:=λa y=>(B a y).1;refine⟨⟨z.trans b.r.ll,b.r.nd,b.r.sm,m,?_,?_,λd _ e _=>k7 _ _,λd e w F J K=>?_⟩,C⟩
 ·rw[b.r.rest f o (bg _),<-b.r.rows];rfl
 ·rw[b.r.rest f o m];show x.full-(p.map _).length=_;have u:(p.map λa=>R.getD a 0).Nodup:=by
   rw[aod,oG];refine sH ?_ A;intro k l h j i g;have q:=f k h;have t:=f l j;exact i ((b.r.inj aa aa).1 g)
  have v:(fk R lf full).Nodup:=(by unfold fk;rw[aod,oG];refine sH ?_ ((uU (n:=full)).sublist xj);intro k l h j i g;have q:=hN.1 (h4.1 h).1;have t:=hN.1 (h4.1 j).1;exact i ((b.r.inj aa aa).1 g));have G:=FA v u (λL H=>by
   grind [Kp])
  have I:=b.r.full;omega
 refine⟨aC R.length (E' d),h0 w,?_⟩;grind [h0]
theorem Oh {b:X->Z}:rI R f (λa=>b (R.getD a 0))=il (f.map (λa=>R.getD a 0),b):=by simp_all [pp,rI,il]
theorem yL {lf:ak5}:a∈e4 lf b↔a<b/\lf.getD a br=bt:=by grind [e4]
def Qb (lf:ak5) (a:X):(e4 lf a).Nodup:=(uU (n:=a)).sublist xj
end
theorem ahC (b:cH d≠2047):a6 d=Y 0↔lK d=0:=by
 constructor
 ·intro a;rw[uh b] at a;have a:=gy a;have e:(2:Z)^(pL d+65536).toNat≠0:=Int.ne_of_gt (mT ab);have c:oe d=0:=(anb.1 a).resolve_right e;have h:=yz d;have g:0<=gS d:=aa;unfold lK;rw[aA b];have f:cH d=0/\gS d=0:=by
   unfold oe at c;omega
  omega
 intro a;unfold lK at a;rw[aA b] at a;by_cases i:cH d=0/\gS d=0
 ·simp_all [oz,aB,uh,oe]
 omega
end
section
section
variable {R:ak6} {full:X} {lf lf':ak5} {E:X->X->fV} {x:aZ} {c:X}
theorem XT (c:ak6) (b:X->Z):c.map (λa=>aw (a6 (b a)))=(c.map λa=>a6 (b a)).map aw:=by simp_all
theorem Tm {l:ak6} {f:X->Z} {d:ak1} (b:cN d) (g:l.length<=1000):pH (l.map (λa=>aw (a6 (f a))),aw d,())=Y (l.map (λa=>aw (cM (a6 (f a)) d)),()):=by
 rw[XT,afC (λc e=>by
  grind [fF]) b ae,pp]
 rfl
theorem afS (i:jc R full lf E x c) (d6:c+4<1048576) {p:X} (eq:p<full) (H:lf.getD p br=bt) (P:lf'.length=lf.length) (O:∀a,a<R.length->lf'.getD a br=(lf.getD a br&&bz (a∉[p]))) (an:x.fin (R.getD p 0)):ah (Ed (cO R full lf' (eQ R.length E),(p:Z),x.bn (R.getD p 0) (R.getD p 0),())) λq=>
  ((x.de [R.getD p 0]).fin/\∃E',q=(cO R full lf' (eQ R.length E'),(x.de [R.getD p 0]).cX.map il,0,())/\jc R full lf' E' (x.elim [R.getD p 0]) (c+4))\/(¬(x.de [R.getD p 0]).fin/\q.2.2.1=233/\q.2.1=[]):=by
 have d9:=i.r.fl;have A:=i.r.sm;have I:p<R.length:=aa;have a0:lf'.length=R.length:=P.trans i.r.ll;generalize C:R.getD p 0=b at*;have G:cH (x.bn b b)≠2047:=(by have:=an (R.getD p 0) (i.r.mem I H);grind);have j:∀a∈e4 lf' R.length,a<R.length/\lf.getD a br=bt/\a≠p:=λa h=>(by obtain⟨L,d4⟩:=yL.1 h;grind);have z:(e4 lf' R.length).length<=1000:=dk (Km _ _) aa;have a3:=Qb lf' R.length;have bl:(e4 lf' R.length).map (λa=>R.getD a 0)=x.rows.filter λd=>bz (d∉[b]):=(by have:=i.r.rest (lf':=lf') (p:=[p]) (λa h=>by grind) O (bg _);rw[<-i.r.rows] at this;grind [F7,List.map_singleton]);have U:∀o,(x.de [b]).rows=(e4 lf' R.length).map (λa=>R.getD a 0)/\(o∈(x.de [b]).l↔o=λd=>if lK (x.bn b b)=0 then 0 else gN (x.s d b) (a6 (x.bn b b)) 0):=λo=>⟨bl.symm,by
  show o∈[_]↔_;grind⟩
 generalize D:(λd=>if lK (x.bn b b)=0 then(0:Z) else gN (x.s d b) (a6 (x.bn b b)) 0)=f at U;have M:∀d,f d=if lK (x.bn b b)=0 then(0:Z) else gN (x.s d b) (a6 (x.bn b b)) 0:=λd=>by rw[<-D]
 have a4:(x.de [b]).l=[f]:=(by rw[<-D];rfl);have d8:(x.de [b]).cX=[((e4 lf' R.length).map (λa=>R.getD a 0),f)]:=(by simp_all [aN.cX]);have ap:(x.de [b]).fin↔∀a∈e4 lf' R.length,cH (f (R.getD a 0))≠2047:=by
  unfold aN.fin;rw[a4,<-(U f).1.symm];constructor
  ·exactλav a h=>av f ac _ (e1.2 ⟨a,h,bq⟩)
  grind
 obtain⟨V,am⟩:=Gq G;have F:cN (a6 (x.bn b b)):=fF _;unfold Ed;dsimp only;refine bC (SF a0 A) ?_;dsimp only;refine bC (qT (x.lR _ _)) ?_;dsimp only;refine bC (oX F) ?_;dsimp only;have bx:(kW (a6 (x.bn b b))==0)=bz (lK (x.bn b b)=0):=(by rw[gp,cy,<-ahC G,am];show gI V=0↔_;grind [amD,gI]);rw[bx];have fn:(∀a∈e4 lf' R.length,cH (f (R.getD a 0))≠2047)->
  ah ((pH ((e4 lf' R.length).map (λa=>aw (a6 (f (R.getD a 0)))),aw (a6 (x.bn b b)),())).bind λ(ds,_)=>
   (qB (cO R full lf' (eQ R.length E),be (e4 lf' R.length),ds,(e4 lf' R.length).map (λa=>aw (a6 (f (R.getD a 0)))),())).bind λ(dl,_)=>
   Y (dl,[rI R (e4 lf' R.length) λa=>f (R.getD a 0)],(0:Z),())) λq=>((x.de [b]).fin/\∃E',q=(cO R full lf' (eQ R.length E'),(x.de [b]).cX.map il,0,())/\jc R full lf' E' (x.elim [b]) (c+4))\/(¬(x.de [b]).fin/\q.2.2.1=233/\q.2.1=[]):=by
  intro t;refine bC (Tm F z) ?_;dsimp only;have ce:=TI (R:=R) (full:=full) (lf:=lf') (E:=E) (l:=e4 lf' R.length) (s:=λd g=>x.s (R.getD d 0) (R.getD g 0)) (u:=λa=>cM (a6 (f (R.getD a 0))) (a6 (x.bn b b))) (v:=λa=>a6 (f (R.getD a 0))) A (λa h=>(j a h).1) a3 z
   (λd k g m=>i.e (j d k).1 (j g m).1 (j d k).2.1 (j g m).2.1) (λd k g m=>i.r.okd _ (i.r.mem (j d k).1 (j d k).2.1) _ (i.r.mem (j g m).1 (j g m).2.1)) (λd _=>kl _ _) (λd _=>fF _)
  refine bC ce ?_;refine bu.2 (.inl ⟨ap.2 t,(λd g=>if d∈e4 lf' R.length/\g∈e4 lf' R.length then aw (cQ (x.s (R.getD d 0) (R.getD g 0)) (dd (cM (cM (a6 (f (R.getD d 0))) (a6 (x.bn b b))) (a6 (f (R.getD g 0)))))) else E d g),?_,?_⟩)
  ·grind [Oh]
  have N:∀d J,n4 (x.gW [b]) (x.lc [b]) d J=iA (f d) (x.bn b b) (f J):=λd J=>(by rw[<-D];rfl);have em:=i.next (lf':=lf') (p:=[p]) (λa h=>by grind) ac P O (E':=λd g=>if d∈e4 lf' R.length/\g∈e4 lf' R.length then aw (cQ (x.s (R.getD d 0) (R.getD g 0)) (dd (cM (cM (a6 (f (R.getD d 0))) (a6 (x.bn b b))) (a6 (f (R.getD g 0)))))) else E d g) (c':=c+4) (λd g k m cv c1=>by
   rw[aB ⟨yL.2 ⟨k,cv⟩,yL.2 ⟨m,c1⟩⟩,xl,C];show _=aw (cQ _ (dd (n4 (x.gW [b]) (x.lc [b]) _ _)));rw[N];rfl) (by
   rw[xl,C];intro K B d k g m;have ek:=k;have el:=m;change d∈x.rows.filter _ at k;change g∈x.rows.filter _ at m;have Q:∀o,o∈x.rows.filter (λd=>bz (d∉[b]))->o∈x.rows/\cH (f o)≠2047:=λo d5=>ae;obtain⟨i1,ci⟩:=Q d k;obtain⟨co,cs⟩:=Q g m;show bf K 3222 3072 (c+4) (cQ _ (dd (n4 (x.gW [b]) (x.lc [b]) _ _)));rw[N];exact(bf.sub B (i.ex K B d i1 g co) (bf.iA B ci G cs) aa).1.mono (bg _) (bg _) aa)
  grind
 by_cases w:lK (x.bn b b)=0
 ·rw[aS (aI w)];have ad:∀d,f d=0:=λd=>(by rw[M d,b9 w]);have L:pE (1,())=Y (aw (iv 1),()):=vS ab ab;refine bC L ?_;dsimp only;rw[aep];have S:∀a:X,gN (Y 0) (iv 1) 0=0:=λ_=>by
   rw[J4 (n:=1) ab bq];unfold gN;grind
  refine bF (GN (v:=λ_=>Y 0) A (tR 1) (λa h=>⟨(j a h).1,wE,?_⟩) z) ?_
  ·unfold Ef;dsimp only;exact aj (vS ab ab) rfl
  rintro q (⟨t,rfl⟩|⟨⟨a,h,t⟩,_⟩)
  ·dsimp only;rw[aP af];have ax:(λa:X=>gN (Y 0) (iv 1) 0)=λa=>f (R.getD a 0):=ag;have d3:(e4 lf' R.length).map (λa=>aw (a6 (gN (Y 0) (iv 1) 0)))=(e4 lf' R.length).map λa=>aw (a6 (f (R.getD a 0))):=alq λa _=>(by rw[S a,ad]);grind
  rw[S a] at t;exact absurd t ab
 rw[aP (aD w)];have d7:∀d,f d=gN (x.s d b) (a6 (x.bn b b)) 0:=λd=>(by rw[M d,aA w]);rw[aeq];refine bF (GN (v:=λa=>x.s (R.getD a 0) b) A F (λa h=>⟨(j a h).1,?_,?_⟩) z) ?_
 ·have:=i.r.okd _ (i.r.mem (j a h).1 (j a h).2.1) _ (i.r.mem I H);grind
 ·unfold Ee;dsimp only;obtain⟨d0,c2,dg⟩:=i.r.ent a p (j a h).1 I (j a h).2.1 H;rw[C] at dg;refine aj (y:=Y (cO R full lf' (eQ R.length E))) rfl (aj (y:=cO R full lf' (eQ R.length E)) rfl ?_);refine aj (y:=d0) (by rw[fq];exact c2) (aj (y:=(p:Z)) rfl (aj (y:=aw (x.s (R.getD a 0) b)) (by grind [fq]) rfl))
 rintro q (⟨t,rfl⟩|⟨⟨a,h,t⟩,T⟩)
 ·grind
 obtain⟨o,d1,d2,_⟩:=q;dsimp only at T;subst T;dsimp only;rw[aS af];grind [bu]
end
end
end Go.l0
end
