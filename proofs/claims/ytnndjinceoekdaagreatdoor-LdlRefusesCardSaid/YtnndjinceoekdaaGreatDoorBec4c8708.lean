/-
  Parts of the proof: Pl5, Th1, Pl6, Pl8, Pl9, Pl10, Pl12, ThT, Pa2, Pa3, Pa4, Pa5, Pa6, Pa7, Pa8, Pa9, Pa10, Pa11, Pa12, Pa13, Pa14, Pa15, Pa16, Pa17, Pa18, Pa19, Pa20, Pa21, Pa22, Pa23, Pa24, Pa25, Pa26, Pa27, Pa28, Pa29, Pm1, Pm2, G25, Pm3, Pm4, Pm5, Pm6, Pm7, Pm8, Pm9, Pm10, Pm11, Pm12, Pl13, Th2, Pl16, Pl18, Th3, Pl20, Pl21, Pl22: the framework (Fw), pure forms (Dn), plain laws (Pl, Th), calls of functions (Ok).
-/
import Derived.Test.YtnndjinceoekdaaGreatDoorRows
import Derived.ProofKit
import Derived.Lib.LaidTab
import Derived.LaidMore
import Derived.Test.YtnndjinceoekdaaGreatDoorBe935f409

set_option linter.all false
set_option maxHeartbeats 1000000
open _root_ renaming Nat->X,Int->Z,Bool->bD,Unit->bw,Option->bA,False->b7,rfl->bq,decide_eq_true_eq->alD,List->bp,decide_eq_true->alc,decide_eq_false->alM,of_decide_eq_true->amF,Decidable->alP,and_true->cf,decide_eq_false_iff_not->anU,decide_eq_decide->cy,beq_self_eq_true->alC,cond_true->bI,if_pos->b9,cond_false->bR,if_neg->ck,bne_self_eq_false->ao3,congrArg->b4
open Go.l0.ah renaming loop->als,eq_iff->bQ,fe->bY,fi->b0,ai->bu,lh->ale,mono->cB,yN->amM
open Option renaming some->Y,bind->bE,none->bv,bind_some->bM,map_some->amP
open Decidable renaming decide->bz,not_not->aoS
open List renaming pairwise_iff_getElem->ala,getElem?_eq_getElem->bV,getD->alW,getElem_mem->b1,mem_singleton->ak9,range->bK,length_filter_le->alB,length_map->b6,range_succ->alu,mem_iff_getElem->amc,length_take->alj,take_add_one->ct,take_length->cm,replicate->bJ,getElem?_eq_none->amJ,getElem?_take->anx,take_of_length_le->cj,getLast?_eq_getElem?->apY,getElem_set_self->ap2,drop->aoW,length_drop->aoF,set_append_right->an0,length_set->anf,nil_append->aoY,drop_drop->amV,take_append_drop->amC,drop_eq_getElem_cons->anQ,append_assoc->alG,drop_eq_nil_of_le->aoZ,getElem_map->an5,length_append->alr,pairwise_append->aqi,map_append->amQ,filter_eq_nil_iff->an8,mem_take_iff_getElem->amR,take_sublist->ano,filter_eq_self->amA,map_const'->ao5,map_congr_left->alq,mem_cons_self->ao6,pairwise_cons->am0,filter_nil->an9,getElem_set->aqk
open Nat renaming lt_or_ge->cq,le_trans->cu,and_le_left->apP,or_lt_two_pow->apQ,and_two_pow_sub_one_eq_mod->aoR,add_comm->amY,div_add_mod->anI,two_pow_pos->amN,pow_lt_pow_right->apS,mul_eq_zero->apT,zero_mul->am8,div_lt_iff_lt_mul->anH,le_div_iff_mul_le->apU,div_div_eq_div_mul->apV,mod_lt->amm,mul_div_cancel->aoT,mul_pos->apX,mul_le_mul_left->aoU,pow_mul->aoV,le_refl->cc,eq_of_testBit_eq->apZ,testBit_and->ap0,testBit_two_pow->aoK,add_sub_cancel->aoX,blt->cg,zero_add->ap8,min_eq_left->amt,le_mul_of_pos_right->aqf,mul_le_mul_right->aqg,div_eq_of_lt->an7,div_le_self->ann,mod_le->ao2,mul_add_div->ao4
open Go.IntKind renaming u64->bG,wrap->amK,signed->apO,i64->bO,u32->ch,u8->aoP
open Go.l0 renaming wrap64->cx
open List.Pairwise renaming filter->aqN,nil->amZ,sublist->aqj
open Bool renaming false->br,true->bt
open Int renaming toNat_natCast->alO,fdiv_eq_ediv_of_nonneg->apR,lt_or_le->amd,mul_nonneg->am9,le_of_lt->aln,le_total->apW,add_comm->anW,add_zero->ana,emod_add_mul_ediv->amu,sub_zero->anX,zero_add->amv,mul_lt_mul_of_pos_right->anY,emod_emod_of_dvd->ap1,mul_emod_left->anZ,mul_emod_mul_of_pos->ap3,mul_eq_zero->anb,mul_zero->anc,one_mul->ane,mul_comm->ame,ediv_ediv_of_nonneg->ap4,ediv_nonneg->al4,le_ediv_iff_mul_le->an1,mul_add->ap5,mul_one->ap6,ediv_lt_of_lt_mul->ap7,emod_lt_of_pos->ang,emod_nonneg->ani,mul_le_mul_of_nonneg_left->an2,lt_of_mul_lt_mul_left->anj,mul_neg_of_pos_of_neg->ap9,mul_ediv_cancel_left->aqa,natCast_mul->anB,le_refl->amb,ediv_le_self->ank,emod_neg->aqb,ediv_neg->aqc,pow_add->aqd,natAbs_neg->anl,mul_ediv_cancel->ao0,zero_sub->ao1,eq_ofNat_of_zero_le->cC,natAbs_natCast->an3,natAbs_mul->aqe,add_mul->anm,natAbs_add_le->an4,natCast_ediv->an6,natCast_emod->aqh
open BitVec renaming ofInt->cn
open Go.l0.fd renaming eq->amO,zero->anV
open Go.l0.aX renaming nil->alQ,mg->alR,append->anh,cons->al5
open Go renaming IntKind->cD,World->bH
open Go.Proofs.Tryz renaming prog->cr
open Go.World renaming cell?->aml
open Go.l0.ao renaming size->alA
open List.Sublist renaming filter->aqO
noncomputable section
namespace Go.l0
variable{a c k x:X}{b e v:Z}{d f g:ak7}{h l:bD}{i:akW}{j m:ak1}{n u:Type}{o:eB}{p:Prop}{q:X->Prop}{r:eA}{s:ak5}{w:(ew×Z×Z×bj×bw)->Prop}{y:(ew×Z×bj×bw)->Prop}
section
def rc (a:ak7) (c:Z):Prop:=a.Pairwise (· < ·)/\∀b∈a,0<=b/\b<c
theorem ah.count {g:n->bA (n⊕u)} {f:u->Prop} (d:n->Z) (c:X) (e:X->n->Prop) {i0:X} {i:n} (p:d i=(i0:Z)) (o:e i0 i) (k:i0<=c) (r:∀a b,i0<=a->a<c->d b=(a:Z)->e a b->ah (g b) (λ|.inl l=>d l=((a+1:X):Z)/\e (a+1) l|.inr h=>f h)) (t:∀b,d b=(c:Z)->e c b->ah (g b) (λ|.inl _=>b7|.inr h=>f h)):ah (l0.loop g i) f:=by
 refine als (λb=>∃a:X,i0<=a/\a<=c/\d b=(a:Z)/\e a b) (λb=>c-(d b).toNat) ⟨i0,bg _,k,p,o⟩ ?_;rintro b ⟨a,q,k,m,s⟩;rcases cY a c with j|j
 ·refine(r a b q j m s).mono ?_;grind
 grind [mono]
open Classical in
theorem V5 (b:ak7) (d:Z) (u:b.length<4611686018427387904):DT (b,d,())=Y (bz (rc b d),()):=by
 rw[<-bQ];unfold DT;simp only[bY];refine ah.count (λi=>i.2.1) b.length (λa i=>i.1=(if a=0 then-1 else b.getD (a-1) 0)/\(b.take a).Pairwise (· < ·)/\∀e∈b.take a,0<=e/\e<d) (i0:=0) rfl ⟨bq,ac,ac⟩ (dj _) ?_ ?_
 ·rintro a ⟨h,x,_⟩ _ n j ⟨f,r,m⟩;simp only at j f;subst j;simp only[b0,bY,bu,ale];have v:∀e∈b.take a,e<=h:=by
   intro e q;rw[f];obtain⟨y,p,rfl⟩:=hV.1 q;simp only[gu] at p;have o:a≠0:=aa;rw[aA o];grind [ala,cq,bV]
  have w:-1<=h:=by
   rw[f];by_cases g:a=0
   ·omega
   rw[aA g];simp only[alW,bh (aa:a-1<b.length),sP];have:=m (b[a-1]) (hV.2 ⟨a-1,ae,ac⟩);omega
  have s:(b[a]<=h\/d<=b[a])->¬rc b d:=by
   rintro c ⟨z,A⟩;rcases c with c|c
   ·rw[f] at c;by_cases g:a=0
    ·grind
    rw[aA g] at c;grind [ala,bV]
   grind [b1]
  refine⟨λ_=>⟨n,λk=>⟨λl=>?_,λl=>?_⟩,λk=>?_⟩,λt=>by grind⟩
  ·grind
  ·simp at k l;refine⟨js aa,?_,?_,?_⟩
   ·grind
   ·grind [ak9,uz]
   grind [uz,ak9]
  grind
 simp_all [b0,bu,gC,rc]
theorem MV (a b:Z):vt (a,b,())=Y (bz (a<b),()):=by grind [vt,tb]
theorem Mx (a:Z) (b:0<=a) (c:a<18446744073709551616):bG.wrap a=a:=by unfold amK;rw[aA (by simp[apO])];show a %18446744073709551616=a;omega
theorem ME (b:ak7) (e:Z) (B:b.length<4611686018427387904) (D:b.Pairwise (· < ·)):ah (vC (b,e,())) (λv=>v.2.1=bz (e∈b)):=by
 unfold vC;simp only[bY];refine cB (P:=λu=>∃a:X,u.1=(a:Z)/\a<=b.length/\(∀c,(f:c<b.length)->c<a->b[c]<e)/\(∀c,(f:c<b.length)->a<=c->e<=b[c])) ?_ ?_
 ·refine als (λg=>∃a d:X,g.1=(a:Z)/\g.2.1=(d:Z)/\a<=d/\d<=b.length/\(∀c,(f:c<b.length)->c<a->b[c]<e)/\(∀c,(f:c<b.length)->d<=c->e<=b[c])) (λg=>(g.2.1-g.1).toNat) ⟨0,b.length,bq,bq,dj _,bg _,λc _ f=>by omega,λc j h=>by omega⟩ ?_;rintro⟨t,E,_⟩ ⟨a,d,rfl,rfl,A,o,j,h⟩;simp only[b0,bY,bu];refine⟨λi=>?_,λn=>?_⟩
  ·have i:a<d:=ae;have ax:bO.wrap ((a:Z)+d)=(a:Z)+d:=cx aa aa;rw[ax,Mx _ aa aa];have s:eT bG ((a:Z)+d) 1=Y (((a+d)/2:X):Z):=by
    unfold eT;rw[aB aa];congr 1;show((a:Z)+d).fdiv (2^min 1 64)=_;grind
   rw[s];simp only[bu];have m:bO.wrap (((a+d)/2:X):Z)=(((a+d)/2:X):Z):=cx aa aa;rw[m,ale];refine⟨aa,?_⟩;rw[MV];simp only[bu,b0];have y:(a+d)/2<b.length:=aa;refine⟨λk=>?_,λk=>?_⟩
   ·have k:b[(a+d)/2]<e:=ae;rw[js aa];refine⟨⟨(a+d)/2+1,d,bq,bq,aa,o,λc l p=>?_,h⟩,aa⟩;grind [Int.lt_trans,ala,cq]
   have k:e<=b[(a+d)/2]:=ae;refine⟨⟨a,(a+d)/2,bq,bq,aa,aa,j,λc l p=>?_⟩,aa⟩;grind [ala,cq]
  grind
 rintro⟨t,_⟩ ⟨a,rfl,z,j,h⟩;simp only;have C:(∀f:a<b.length,b[a]≠e)->e∉b:=by
  intro r q;obtain⟨c,l,rfl⟩:=hV.1 q;rcases sO c a with f|f|f
  ·grind
  ·grind
  have w:=h a aa (bg _);grind [ala]
 simp only[b0,bY,bu,ale];refine⟨λi=>?_,λn=>?_⟩
 ·have i:a<b.length:=ae;refine⟨i,λr=>?_,λx=>?_⟩
  ·grind [bu,ED]
  grind
 grind
structure fw (nD:akW):Prop where
 asc:∀v,(h:v<nD.length)->rc nD[v] nD.length
 PQ:∀v,(h:v<nD.length)->(v:Z)∉nD[v]
 sym:∀v,(h:v<nD.length)->∀w:X,(hw:w<nD.length)->(w:Z)∈nD[v]->(v:Z)∈nD[w]
open Classical in
def iO (a:akW):Z:=if 200<a.length then 6 else if fw a then 0 else 1
open Classical in
theorem J7 (a:akW) (b:X) (c:Z) (f:b<a.length) (d:a[b].length<4611686018427387904) (e:a[b].Pairwise (· < ·)):x2 ((a,()),(b:Z),c,())=Y (bz (c∈a[b]),()):=by rw[<-bQ];grind [bu,ME,bY,ale,x2]
theorem Hu (a:akW) (p:∀z∈a,z.length<4611686018427387904):Av ((a,()),())=Y (iO a,()):=by
 classical
 rw[<-bQ];unfold Av;simp only[b0,bY,bu];refine⟨λi=>?_,λi=>?_⟩
 ·grind [iO]
 have G:¬200<a.length:=ae;have C:¬fw a->(1:Z)=iO a:=λi=>(by grind [iO]);refine cB (P:=λh=>(h=.inr (1,())/\¬fw a)\/(h=.inl ()/\∀d,(i:d<a.length)->rc a[d] a.length/\(d:Z)∉a[d])) ?_ ?_
 ·refine ah.for (i0:=0) a.length (λc _=>∀d,d<c->(i:d<a.length)->rc a[d] a.length/\(d:Z)∉a[d]) rfl (λd l=>by omega) (dj _) ?_ ?_
  ·rintro c _ _ g t;simp only[b0,bY,bu,ale];refine⟨λ_=>⟨g,?_⟩,λr=>by grind⟩;rw[V5 _ _ (p _ (cK g))];simp only[bu];refine⟨λq=>?_,λq=>.inl ⟨trivial,λf=>?_⟩⟩
   ·have q:rc a[c] a.length:=ae;rw[J7 a c c g (p _ (cK g)) q.1];simp only[bu,b0];refine⟨λx=>.inl ⟨trivial,λf=>f.PQ c g ae⟩,λx=>⟨js aa,λd l D=>?_⟩⟩;grind
   have:=f.asc c g;grind
  simp_all [b0,bu,trivial]
 rintro h (⟨rfl,f⟩|⟨rfl,o⟩)
 ·grind [bu]
 simp only[bY];have J:(∀e,(i:e<a.length)->∀k∈a[e],∀b:X,k=(b:Z)->(j:b<a.length)->(e:Z)∈a[b])->fw a:=λi=>⟨λe f=>(o e f).1,λe f=>(o e f).2,λe f b j s=>i e f b s b bq j⟩;refine cB (P:=λh=>(h=.inr (1,())/\¬fw a)\/(h=.inl ()/\∀e,(i:e<a.length)->∀k∈a[e],∀b:X,k=(b:Z)->(j:b<a.length)->(e:Z)∈a[b])) ?_ ?_
 ·refine ah.for (i0:=0) a.length (λc _=>∀e,e<c->(i:e<a.length)->∀k∈a[e],∀b:X,k=(b:Z)->(j:b<a.length)->(e:Z)∈a[b]) rfl (λd l=>by omega) (dj _) ?_ ?_
  ·rintro c _ _ g t;simp only[b0,bY,ale];refine⟨λ_=>⟨g,?_⟩,λr=>by grind⟩;have E:=p _ (cK g);refine cB (P:=λh=>(h=.inr (.inr (.inr (1,())))/\¬fw a)\/(h=.inl ()/\∀k∈a[c],∀b:X,k=(b:Z)->(j:b<a.length)->(c:Z)∈a[b])) ?_ ?_
   ·refine ah.for (i0:=0) a[c].length (λd _=>∀m,m<d->(i:m<a[c].length)->∀b:X,a[c][m]=(b:Z)->(j:b<a.length)->(c:Z)∈a[b]) rfl (λd l=>by omega) (dj _) ?_ ?_
    ·rintro d _ _ l v;simp only[b0,bY,ale];refine⟨λ_=>⟨l,?_⟩,λr=>by grind⟩;have I:=(o c g).1.2 _ (cK l);obtain⟨b,j⟩:∃b:X,a[c][d]=(b:Z):=⟨a[c][d].toNat,aa⟩;have n:b<a.length:=aa;rw[j,J7 a b c n (p _ (cK n)) (o b n).1.1];simp only[bu,b0];refine⟨λH=>.inl ⟨trivial,λf=>?_⟩,λM=>⟨js aa,λm s F B K L=>?_⟩⟩
     ·have:=f.sym c g b n (j▸cK l);grind
     rcases cY m d with u|u
     ·grind
     obtain rfl:m=d:=aa;have:B=b:=aa;grind
    intro A v;simp only[b0,bu];refine⟨λr=>by grind,λ_=>.inr ⟨trivial,λk y b j n=>?_⟩⟩;obtain⟨m,s,rfl⟩:=hV.1 y;grind
   rintro h (⟨rfl,f⟩|⟨rfl,w⟩)
   ·simp_all [trivial,bu]
   grind [bu,js,cq]
  intro A t;simp only[b0,bu];grind
 rintro h (⟨rfl,f⟩|⟨rfl,w⟩)
 ·grind [bu]
 grind [bu,iO]
end
section
inductive rE (A:X->X->Prop) (k:X):X->X->Prop
 |one {i j:X}:A i j->rE A k i j
 |step {i m j:X}:A i m->m<k->rE A k m j->rE A k i j
section
variable {A:X->X->Prop} {k:X}
end
end
section
def ks (A:akW) (a b:X):Prop:=∃c:a<A.length,(b:Z)∈A[a]
def ks.lt {A:akW} (f:fw A) (b:ks A a c):a<A.length/\c<A.length:=by obtain⟨d,e⟩:=b;have:=(f.asc a d).2 _ e;omega
def ks.symm {A:akW} (e:fw A):∀a b,ks A a b->ks A b a:=λa b c=>by obtain⟨f,d⟩:=c.lt e;exact⟨d,e.sym a f b d c.2⟩
def ks.ne {A:akW} (e:fw A) (b:ks A a c):a≠c:=λd=>by subst d;exact e.PQ a b.1 b.2
def rE.lt {A:akW} (b:fw A) {e c j:X} (a:rE (ks A) e c j):c<A.length/\j<A.length:=by
 induction a with
 |one a=>exact a.lt b
 |step a _ _ d=>exact⟨(a.lt b).1,d.2⟩
inductive Dj (R:X->X->Prop):X->X->Prop
 |refl (u:X):Dj R u u
 |step {u p v:X}:R u p->Dj R p v->Dj R u v
section
variable (A:akW)
variable {A} {j:X} {T:X->Prop} {par B:ak7}
end
end
section
def zK (c:akW) (a b:X):Prop:=b=a\/(a<b/\rE (ks c) a a b)
open Classical in
def vo (c:akW) (b d:X):ak7:=((bK d).filter λa=>bz (b<=a/\zK c b a)).map λ(a:X)=>(a:Z)
def hh (a:akW) (b:X):ak7:=vo a b a.length
def zK.le (b:zK i c a):c<=a:=by rcases b with b|b<;>omega
def wl:(a:Z)∈hh i c↔a<i.length/\zK i c a:=by
 unfold hh vo;simp only[e1,h4,hN,alD];constructor
 ·rintro⟨e,⟨d,b⟩,f⟩;have:e=a:=aa;subst this;exact⟨d,b.2⟩
 exactλ⟨d,b⟩=>⟨a,⟨d,b.le,b⟩,bq⟩
def L1 (c:X->bD) (b:X):(((bK b).filter c).map λ(a:X)=>(a:Z)).Pairwise (· < ·):=by rw[oG];refine aqN _ ?_;exact List.pairwise_lt_range.imp (λd=>by omega)
def Om (a:akW) (b:X):(hh a b).Pairwise (· < ·):=L1 _ _
def WP (b:akW) (c a:X):(vo b c a).length<=a:=by unfold vo;rw[di];exact dk (lv _ _) ac
end
theorem C0 (a:ak7) (b:Z) (h:a.length<4611686018427387904):tq (a,b,())=Y (bz (b∈a),()):=by
 rw[<-bQ];unfold tq;simp only[bY];refine ah.for (i0:=0) a.length (λc _=>b∉a.take c) rfl ac (dj _) ?_ ?_
 ·rintro c _ _ d e;simp only[b0,bY,bu,ale];refine⟨λ_=>⟨d,λf=>?_,λi=>⟨js aa,?_⟩⟩,λg=>by grind⟩
  ·grind
  grind [uz,ak9]
 simp_all [b0,bu,gC]
def Uu (a:Z):bG.wrap a=a %18446744073709551616:=by unfold amK;rw[aA (by simp[apO])];rfl
def hX (a:eB) (b c:X):bD:=(a.getD b []).getD c br
def m9 (c:eB) (b d:X):ak7:=((bK d).filter λa=>b !=a&&(hX c b a||hX c a b)).map λ(a:X)=>(a:Z)
def ki (a:eB):akW:=(bK a.length).map λb=>m9 a b a.length
theorem Qd (b:eB) (c a:X):(m9 b c a).length<=a:=by grind [cu,alB,b6,m9]
theorem Qe (c:eB) (b a:X):m9 c b (a+1)=m9 c b a++(if(b !=a&&(hX c b a||hX c a b))=bt then[(a:Z)] else[]):=by unfold m9;rw[je,qb,iK];grind
theorem xJ (b:a<o.length) (d:c<o[a].length):hX o a c=o[a][c]:=by grind [alW,hX]
theorem MO (a:eB) (p:∀k∈a,k.length=a.length) (y:a.length<=4294967296):A6 (a,())=Y ((ki a,()),()):=by
 rw[<-bQ];unfold A6;have v:h1=4294967296:=rfl;simp only[bY];refine cB (P:=λd=>d.2.1.1=ki a) ?_ ?_
 ·refine ah.for (i0:=0) a.length (λc l=>l.2.1.1=(bK c).map λc=>m9 a c a.length) rfl rfl (dj _) ?_ ?_
  ·rintro c ⟨l,h,_⟩ _ i g;simp only at g;simp only[b0,bY,bu];refine⟨λ_=>?_,λm=>by grind⟩;refine cB (P:=λd=>d.2.1=h/\d.2.2.1=m9 a c a.length) ?_ ?_
   ·refine ah.for (i0:=0) a.length (λe d=>d.2.1=h/\d.2.2.1=m9 a c e) rfl ⟨bq,bq⟩ (dj _) ?_ ?_
    ·rintro e ⟨s,q,k,_⟩ _ j ⟨n,o⟩;simp only at o n;subst n;have t:=p _ (cK i);have u:=p _ (cK j);simp only[b0 (b:=decide _),bY (x:=bE _ _)];refine⟨λ_=>?_,λm=>by grind⟩;rw[bY];refine cB (P:=λd=>d=((c !=e&&(hX a c e||hX a e c)),s,q,k,())) ?_ ?_
     ·simp only[b0,bY,bu,ale];rw[xJ i aa,xJ j aa];refine⟨λf=>⟨i,aa,λr=>⟨j,aa,?_⟩,λr=>?_⟩,λf=>?_⟩
      ·have f:c≠e:=ae;grind
      ·have f:c≠e:=ae;grind
      grind
     rintro d rfl;have w:=Qd a c e;simp only[b0,bY,bu,amM];refine⟨λf=>⟨ae,js aa,trivial,?_⟩,λf=>⟨js aa,trivial,?_⟩⟩
     ·rw[Qe,aB f,o]
     simp_all [Qe,aA,oA]
    simp_all [b0,bu,trivial]
   grind [bY,bu,amM,js,alu]
  rintro⟨l,h,_⟩ g;simp only at g;simp only[b0,bu];exact⟨λm=>by grind,λ_=>g⟩
 grind [bu]
theorem Qv:(a:Z)∈m9 o c k↔a<k/\c≠a/\(hX o c a||hX o a c)=bt:=by unfold m9;grind
theorem JI (b:eB):fw (ki b):=by
 have e:(ki b).length=b.length:=(by simp[ki]);have d:∀a,(c:a<(ki b).length)->(ki b)[a]=m9 b a b.length:=λa c=>(by simp[ki]);refine⟨λa c=>?_,λa c=>?_,λa c i h g=>?_⟩
 ·rw[d a c,e];refine⟨L1 _ _,λj f=>?_⟩;unfold m9 at f;grind
 ·grind [Qv]
 grind [Qv,Bool.or_comm]
def Yk (a:eB):(ki a).length=a.length:=by simp[ki]
theorem Yl (b:eB):∀a∈ki b,a.length<=b.length:=by intro a c;unfold ki at c;grind [Qd]
def WQ (r:fw i) (s:a<i.length):∃f,hh i a=(a:Z)::f/\(∀c∈f,∃b:X,c=(b:Z)/\a<b/\b<i.length/\rE (ks i) a a b)/\(∀b:X,a<b->rE (ks i) a a b->(b:Z)∈f)/\f.Pairwise (· < ·):=by
 have l:(a:Z)∈hh i a:=wl.2 ⟨s,.inl bq⟩;have h:=Om i a;have j:∀c∈hh i a,∃b:X,c=(b:Z)/\b<i.length/\zK i a b:=(by intro c e;have t:=e;unfold hh vo at e;simp only[e1] at e;obtain⟨b,_,rfl⟩:=e;exact⟨b,bq,wl.1 t⟩);generalize q:hh i a=o at l h j;cases o with
 |nil=>cases l
 |cons c f=>
  rw[ns] at h;have e:c=(a:Z):=by
   obtain⟨b,rfl,_,k⟩:=j c (mU ..);have:=k.le;rcases gn.1 l with d|d
   ·exact d.symm
   have:=h.1 _ d;omega
  subst e;refine⟨f,bq,λu n=>?_,λb k m=>?_,h.2⟩
  ·obtain⟨b,rfl,p,g⟩:=j u (ht _ n);have:=h.1 _ n;rcases g with g|g
   ·omega
   exact⟨b,bq,g.1,p,g.2⟩
  have:(b:Z)∈hh i a:=wl.2 ⟨(m.lt r).2,.inr ⟨k,m⟩⟩;rw[q] at this;rcases gn.1 this with d|d
  ·omega
  exact d
theorem fR {a:bp n} {i:X} {b:n} (c:a[i]?=Y b):aq a (i:Z)=Y b:=by unfold aq;rw[aB aa,gg,c]
theorem HX (b:akW):fw b↔∀a,(f:a<b.length)->b[a].Pairwise (· < ·)/\∀c,(e:c<b[a].length)->(0<=b[a][c]/\b[a][c]<b.length)/\b[a][c]≠(a:Z)/\(a:Z)∈b.getD (b[a][c]).toNat []:=by
 constructor
 ·rintro⟨g,j,k⟩ a d;refine⟨(g a d).1,λc e=>?_⟩;have l:=(g a d).2 _ (cK e);grind
 intro f;refine⟨λa d=>⟨(f a d).1,λp n=>?_⟩,λa d h=>?_,λa d o m h=>?_⟩
 ·grind [amc]
 ·grind [amc]
 obtain⟨c,e,i⟩:=hV.1 h;grind [alO,bV]
theorem Cl (a:akW) (s:∀B∈a,B.length<4611686018427387904):vH ((a,()),())=Y (iO a,()):=by
 classical
 rw[<-bQ];unfold vH;simp only[b0,bu,bY];refine⟨λd=>?_,λd=>?_⟩
 ·grind [iO]
 have E:¬200<a.length:=ae;refine cB (P:=λg=>(g=.inl ()/\fw a)\/(g=.inr (1,())/\¬fw a)) ?_ ?_
 rotate_left
 ·rintro _ (⟨rfl,e⟩|⟨rfl,e⟩)
  ·grind [bu,iO]
  grind [bu,iO]
 refine ah.for (i0:=0) a.length (λn _=>∀b,(d:b<a.length)->b<n->a[b].Pairwise (· < ·)/\∀c,(f:c<a[b].length)->(0<=a[b][c]/\a[b][c]<a.length)/\a[b][c]≠(b:Z)/\(b:Z)∈a.getD (a[b][c]).toNat []) rfl (λb _ d=>by omega) (dj _) ?_ ?_
 ·rintro b _ _ e i;have A:=s _ (cK e);simp only[b0,bu,bY,ale];refine⟨λ_=>⟨e,?_⟩,λh=>by grind⟩;rw[MC _ A];simp only[bu];refine⟨λl=>.inr ⟨trivial,λk=>?_⟩,λl=>?_⟩
  ·have:=(k.asc b e).1;grind
  have l:a[b].Pairwise (· < ·):=ae;refine cB (P:=λg=>(g=.inl ()/\∀c,(f:c<a[b].length)->(0<=a[b][c]/\a[b][c]<a.length)/\a[b][c]≠(b:Z)/\(b:Z)∈a.getD (a[b][c]).toNat [])\/(g=.inr (.inr (.inr (1,())))/\¬fw a)) ?_ ?_
  rotate_left
  ·rintro _ (⟨rfl,t⟩|⟨rfl,t⟩)
   ·simp only[bu];refine⟨js aa,λp z G=>?_⟩;rcases cY p b with d|d
    ·exact i p z d
    obtain rfl:p=b:=aa;exact⟨l,t⟩
   simp_all [bu,trivial]
  refine ah.for (i0:=0) a[b].length (λn _=>∀c,(f:c<a[b].length)->c<n->(0<=a[b][c]/\a[b][c]<a.length)/\a[b][c]≠(b:Z)/\(b:Z)∈a.getD (a[b][c]).toNat []) rfl (λb _ d=>by omega) (dj _) ?_ ?_
  ·rintro c _ _ f j;have m:¬((0<=a[b][c]/\a[b][c]<a.length)/\a[b][c]≠(b:Z)/\(b:Z)∈a.getD (a[b][c]).toNat [])->¬fw a:=λd k=>d (((HX a).1 k b e).2 c f);simp only[b0,bu,bY,ale];refine⟨e,λ_=>⟨e,f,λq=>⟨λr=>⟨λu=>?_,λu=>?_⟩,λr=>?_⟩,λq=>?_⟩,λh=>by simp_all⟩
   ·have y:0<=a[b][c]/\a[b][c]<(a.length:Z):=ag;have F:a[b][c]≠(b:Z):=ag;rw[ah.Pt];refine⟨aa,y.1,?_⟩;rw[C0 _ _ (s _ (cK _))];have C:a.getD (a[b][c]).toNat []=a[(a[b][c]).toNat]'(by omega):=by
     simp_all
    simp only[bu];refine⟨λv=>.inr ⟨trivial,m ?_⟩,λv=>⟨js aa,λo x D=>?_⟩⟩
    ·simp_all
    rcases cY o c with d|d
    ·exact j o x d
    obtain rfl:o=c:=aa;simp_all
   ·simp_all
   ·refine .inr ⟨trivial,m (λw=>?_)⟩;simp at r;omega
   refine .inr ⟨trivial,m (λw=>?_)⟩;simp at q;omega
  rintro _ j;simp only[b0,bu,bY,ale];exact⟨e,λh=>by simp at h,λ_=>.inl ⟨trivial,λc f=>j c f f⟩⟩
 rintro _ i;simp only[b0,bu];exact⟨λh=>by grind,λ_=>.inl ⟨trivial,(HX a).2 λb e=>i b e e⟩⟩
theorem Vi (a:ak7) (c:Z) (q:a.length<4611686018427387904):E2 (a,c,())=Y (bz (∀b∈a,0<=b/\b<c),()):=by
 rw[<-bQ];unfold E2;simp only[bY];refine cB (P:=λi=>(i=.inl ()/\∀b∈a,0<=b/\b<c)\/(i=.inr (br,())/\¬∀b∈a,0<=b/\b<c)) ?_ ?_
 ·refine ah.for (i0:=0) a.length (λf _=>∀d,(e:d<a.length)->d<f->0<=a[d]/\a[d]<c) rfl (λd _ e=>by omega) (dj _) ?_ ?_
  ·rintro f _ _ g l;have h:¬(0<=a[f]/\a[f]<c)->¬∀b∈a,0<=b/\b<c:=λe n=>e (n _ (cK g));simp only[b0,bY,bu,ale];refine⟨λ_=>⟨g,λj=>⟨g,λk=>.inr ⟨trivial,h (λe=>?_)⟩,λk=>⟨js aa,λd o p=>?_⟩⟩,λj=>.inr ⟨trivial,h (λe=>?_)⟩⟩,λm=>by grind⟩
   ·grind
   ·grind
   grind
  rintro _ l;simp only[b0,bu];refine⟨λm=>by grind,λ_=>.inl ⟨trivial,λb r=>?_⟩⟩;grind [amc]
 grind [bu,alc,alM]
theorem QV:d.Nodup↔∀a,(b:a<d.length)->d[a]∉d.take a:=by grind [amc,alj,ala]
theorem Vr (a:ak7) (m:a.length<4611686018427387904):E3 (a,())=Y (bz (¬a.Nodup),()):=by
 rw[<-bQ];unfold E3;simp only[bY];refine cB (P:=λe=>(e=.inl ()/\a.Nodup)\/(e=.inr (bt,())/\¬a.Nodup)) ?_ ?_
 ·refine ah.for (i0:=0) a.length (λc _=>∀b,(d:b<a.length)->b<c->a[b]∉a.take b) rfl (λb _ d=>by omega) (dj _) ?_ ?_
  ·rintro c _ _ g h;have ax:gF (c:Z)=Y c:=(by simp_all [aB,gg,gF]);have f:he 0 c a.length=Y ():=(by grind [he]);simp only[b0,bY,bu,ale,ax,f,aF,jv,mm];refine⟨λ_=>⟨g,?_⟩,λj=>by grind⟩;rw[C0 _ _ ae];simp only[bu];refine⟨λd=>.inr ⟨trivial,λi=>?_⟩,λd=>⟨js aa,λb k l=>?_⟩⟩
   ·simp_all [QV,amF]
   grind
  simp_all [b0,bu,trivial,QV]
 grind [bu,alM,alc]
def pe (a:akW):eB:=(bK a.length).map λb=>(bK a.length).map λ(c:X)=>bz ((c:Z)∈a.getD b [])
theorem Mb (a:akW):(pe a).length=a.length:=by simp[pe]
theorem TT (b:a<i.length):(pe i)[a]?=Y ((bK i.length).map λ(c:X)=>bz ((c:Z)∈i[a])):=by simp[pe,b,alW]
theorem M6 (p:∀v∈i,v.length<4611686018427387904) (y:i.length<=200) (r:∀a,(f:a<i.length)->∀o∈i[a],0<=o/\o<(i.length:Z)):A7 ((i,()),())=Y (pe i,()):=by
 rw[<-bQ];unfold A7;have x:h1=4294967296:=rfl;simp only[bY];refine cB (P:=λd=>d.1=pe i) ?_ (by grind [bu]);refine ah.for (i0:=0) i.length (λu e=>e.1=(pe i).take u) rfl ac (dj _) ?_ ?_
 ·rintro a ⟨j,_⟩ _ b h;simp only at h;have A:=p _ (cK b);simp only[b0,bY,ah.Kx,gg];refine⟨λ_=>⟨⟨aa,aa,aa⟩,?_⟩,λq=>by grind⟩;refine cB (P:=λd=>d.1=j/\d.2.1=(bK i.length).map λ(l:X)=>bz ((l:Z)∈i[a])) ?_ ?_
  ·refine ah.for (i0:=0) i[a].length (λc e=>e.1=j/\e.2.1=(bK i.length).map λ(l:X)=>bz ((l:Z)∈i[a].take c)) rfl ⟨bq,?_⟩ (dj _) ?_ ?_
   ·apply ig;grind
   ·rintro c ⟨B,w,_⟩ _ g ⟨m,n⟩;simp only at m n;have t:=r a b _ (cK g);have z:w.length=i.length:=ae;simp only[b0,bY,ale,ah.FT,ah.Dr,bu];refine⟨b,λ_=>⟨b,g,⟨t.1,aa⟩,aa,js aa,m,?_⟩,λq=>by grind⟩;apply ig;intro k;rw[xk,n,jQ,jQ];rcases cY k i.length with f|f
    ·rw[zQ f];simp only[jv,<-uz g,hM,fH,di,mr];by_cases s:(i[a][c]).toNat=k
     ·grind
     rw[aA s];have:¬(k:Z)=i[a][c]:=aa;grind
    grind
   simp_all [b0,bY,ale,bu,gC]
  grind [bY,amM,bu,js,TT,ct]
 rintro⟨j,_⟩ h;simp only at h;simp only[b0,bu];grind [Mb,cm]
theorem OQ (a:X) (h:a<=4294967296):A8 ((a:Z),())=Y (bJ a (bJ a br),()):=by
 rw[<-bQ];unfold A8;have g:h1=4294967296:=rfl;simp only[bY];refine cB (P:=λd=>d.1=bJ a (bJ a br)) ?_ (by grind [bu]);refine ah.for (i0:=0) a (λb e=>e.1=bJ b (bJ a br)) rfl rfl (dj _) ?_ ?_
 ·rintro b ⟨i,_⟩ _ f c;simp only at c;simp only[b0,bY,bu,ah.Kx,amM,gg];grind [List.replicate_succ',js]
 simp_all [b0,bu]
section
def aC {α:Type} (b:X) (a:X->α):bp α:=(bK b).map a
def eK {α:Type} (b:X->α) (c:X) (d:α):X->α:=λa=>if a=c then d else b a
section
variable {α A B:Type}
theorem gA (c:X->α) (a:X) (b:α):eK c a b a=b:=aB bq
theorem gT (b:X->α) (e:α) (d:a≠c):eK b c e a=b a:=aA d
theorem cU (a:X) (b:X->α):(aC a b).length=a:=by simp[aC]
theorem o0 (c:X) (b:X->α) (a:X):(aC c b)[a]?=if a<c then Y (b a) else bv:=by unfold aC;grind
theorem h0 {b:X->α} (d:a<c):(aC c b)[a]?=Y (b a):=by rw[o0,aB d]
theorem kz {b:X->α} (d:a<(aC c b).length):(aC c b)[a]=b a:=by simp[aC]
theorem c4 {c d:X->α} (e:∀b,b<a->c b=d b):aC a c=aC a d:=iL λb f=>e b (hN.1 f)
theorem XY (a:X->α):aC 0 a=[]:=rfl
theorem r0 (b:X) (a:X->α):aC (b+1) a=aC b a++[a b]:=by simp[aC,je]
theorem iF (a:X) (b:α):bJ a b=aC a λ_=>b:=by apply ig;grind [o0]
theorem ha {b:X->α} (d:α):(aC c b).set a d=aC c (eK b a d):=by apply ig;intro e;rw[xk,o0,o0,cU];unfold eK;grind
def Qt {b:X->α} {d:α}:d∈aC a b↔∃c,c<a/\b c=d:=by simp[aC]
theorem XX (a:bp α) (c:X->α) (d:∀b,(e:b<a.length)->a[b]=c b):a=aC a.length c:=by apply ig;grind [amJ,bV,o0]
theorem Fy (c a:X) (b:X->α) (d:a<=c):(aC c b).take a=aC a b:=by apply ig;intro e;rw[anx,o0,o0];grind
theorem XV (d a:X) (b:X->α):(aC d b).drop a=aC (d-a) (λc=>b (a+c)):=by apply ig;intro c;rw[qf,o0,o0];grind
theorem Bq (b e:X) (c d:X->α):aC b c++aC e d=aC (b+e) (λa=>if a<b then c a else d (a-b)):=by apply ig;intro a;rw[List.getElem?_append,cU,o0,o0,o0];grind
theorem eV {n i:X} (a:i<n):bm n (i:Z)=Y i:=by simp_all [aB,bm]
theorem gh {c:bp α} {v:α} {b:α->bA A} (d:c[a]?=Y v):ba c a b=b v:=by grind [ba]
theorem gV {b:X->α} {d:α->bA A} (e:a<c):ba (aC c b) a d=d (b a):=gh (h0 e)
def r7 {b:X->α} (d:a<c):aq (aC c b) (a:Z)=Y (b a):=fR (h0 d)
theorem c9 (b:a<=4294967296):cI a=Y ():=aB b
theorem hP (b:a<=4294967296):fS (a:Z) (a:Z)=Y a:=by unfold fS;rw[aB ⟨aa,aa,by have:h1=4294967296:=rfl;omega⟩];simp
theorem wv:gF (a:Z)=Y a:=by simp_all [aB,gF]
theorem qN (b:c<=a/\a<=k):he c a k=Y ():=aB b
def Lp (b:0<a):oi a=Y ():=rfl
theorem gp (a b:Z):(a==b)=bz (a=b):=by grind
theorem fJ (a b:Z):(a !=b)=!bz (a=b):=by grind
theorem aI [alP p] (a:p):decide p=bt:=alc a
theorem aD [alP p] (a:¬p):decide p=br:=alM a
theorem aS {a b:α} (c:h=bt):(bif h then a else b)=a:=by grind
theorem aP {b a:α} (c:h=br):(bif h then b else a)=a:=by grind
theorem cW [alP p] {a b:α}:(bif decide p then a else b)=if p then a else b:=by grind
theorem Ao [alP p] {a b:α}:(bif decide p==bt then a else b)=if p then a else b:=by grind
theorem xW [alP p] {a b:α}:(bif decide p==br then a else b)=if p then b else a:=by grind
theorem CO (b:a<9223372036854775808):bO.wrap (a:Z)=(a:Z):=cx aa aa
theorem Uv (b:a+c<9223372036854775808):bO.wrap ((a:Z)+(c:Z))=((a+c:X):Z):=by grind [cx]
theorem ahi (d:c<=a) (b:a<9223372036854775808):bO.wrap ((a:Z)-(c:Z))=((a-c:X):Z):=by grind [cx]
theorem w3 (c:1<=a) (b:a<9223372036854775808):bO.wrap ((a:Z)-1)=((a-1:X):Z):=by grind [cx]
theorem jr (b:a+1<9223372036854775808):bO.wrap ((a:Z)+1)=((a+1:X):Z):=by grind [cx]
end
def ah.of_eq {α:Type} {b:bA α} {y:α} {a:α->Prop} (c:b=Y y) (d:a y):ah b a:=⟨y,c,d⟩
theorem ah.aJ {α A:Type} {c:bA α} {b:α->bA A} {P:α->Prop} {a:A->Prop} (e:ah c P) (f:∀d,P d->ah (b d) a):ah (c.bind b) a:=
 bY.2 (e.mono f)
theorem ah.ite {α:Type} [alP p] {b c:bA α} {a:α->Prop} (d:p->ah b a) (e:¬p->ah c a):ah (if p then b else c) a:=by grind
theorem aj {α A:Type} {c:bA α} {a:α->bA A} {y:α} {b:bA A} (d:c=Y y) (e:a y=b):c.bind a=b:=by grind
theorem BI {f:Z×n->bA ((Z×n)⊕u)} {g:u} {h:n} (d:X) (c:X->n) (e:X) (j:b=(e:Z)) (k:h=c e) (i:e<=d) (o:∀a,e<=a->a<d->f ((a:Z),c a)=Y (.inl (((a+1:X):Z),c (a+1)))) (m:f ((d:Z),c d)=Y (.inr g)):loop f (b,h)=Y g:=by
 subst j k;rw[<-bQ];refine ah.for d (λa l=>l=c a) rfl rfl i ?_ ?_
 ·grind [bu]
 grind [bu]
theorem tY {τ:Type} {h:Z×τ->bA ((Z×τ)⊕n)} (f:X) (e:X->Prop) (g:τ) (l k:n) (d:X) (r:b=(d:Z)) (q:d<=f) (s:∀a,d<=a->a<f->(∀c,d<=c->c<a->e c)->h ((a:Z),g)=Y (open Classical in if e a then .inl (((a+1:X):Z),g) else .inr k)) (v:(∀c,d<=c->c<f->e c)->h ((f:Z),g)=Y (.inr l)):loop h (b,g)=Y (open Classical in if∀a,d<=a->a<f->e a then l else k):=by
 classical
 subst r;rw[<-bQ];refine ah.for f (λa t=>t=g/\∀c,d<=c->c<a->e c) rfl ⟨bq,λc i u=>by omega⟩ q ?_ ?_
 ·rintro a _ m i ⟨rfl,o⟩;rw[s a m i o];by_cases j:e a
  ·rw[aB j];grind [cq,bu]
  rw[aA j];exact bu.2 (by rw[aA (λp=>j (p a m i))])
 rintro _ ⟨rfl,o⟩;simp_all [bu,aB]
theorem Kt {d:Z×bw->bA dU} (c:X) (b:X->Prop) (h:∀a,a<c->d ((a:Z),())=Y (open Classical in if b a then .inl (((a+1:X):Z),()) else .inr (.inr ((a:Z),())))) (m:d ((c:Z),())=Y (.inr (.inl ()))):ah (loop d (0,())) (λi=>match i with|.inl _=>∀a,a<c->b a|.inr j=>0<=j.1/\¬∀a,a<c->b a):=by
 classical
 refine ah.for c (λa _=>∀e,e<a->b e) (i0:=0) rfl (λe k=>by omega) (dj _) ?_ ?_
 ·rintro a ⟨⟩ _ g l;rw[h a g];by_cases f:b a
  ·rw[aB f];grind [cq,bu]
  rw[aA f];grind [bu]
 grind [bu]
end
theorem Mv (a:Z):ch.wrap a=a %4294967296:=by unfold amK;exact aA (ac:¬(br&&bz (a %4294967296>=(2147483648:Z)))=bt)
theorem CP (a:Z):bG.wrap a=a %18446744073709551616:=by unfold amK;exact aA (ac:¬(br&&bz (a %18446744073709551616>=(9223372036854775808:Z)))=bt)
theorem CQ (a:0<=b) (c:b<18446744073709551616):bG.wrap b=b:=by grind [CP]
theorem Mw (a:0<=b) (c:b<4294967296):ch.wrap b=b:=by grind [Mv]
theorem Wv (b:a<18446744073709551616):(cn 64 (a:Z)).toNat=a:=by grind
theorem Nr (e:a<18446744073709551616) (f:c<18446744073709551616):e3 .u64 (a:Z) (c:Z)=((a&&&c:X):Z):=by have b:((cn 64 (a:Z))&&&(cn 64 (c:Z))).toNat=a&&&c:=ae;have d:a&&&c<=a:=apP;unfold e3;rw[show bG.bits=64 from rfl,b];grind [CQ]
theorem Nq (e:a<4294967296) (f:c<4294967296):e3 .u32 (a:Z) (c:Z)=((a&&&c:X):Z):=by have b:((cn 32 (a:Z))&&&(cn 32 (c:Z))).toNat=a&&&c:=ae;have d:a&&&c<=a:=apP;unfold e3;rw[show ch.bits=32 from rfl,b];grind [Mw]
theorem adM (d:a<18446744073709551616) (e:c<18446744073709551616):gM .u64 (a:Z) (c:Z)=((a|||c:X):Z):=by have b:(cn 64 (a:Z)|||cn 64 (c:Z)).toNat=a|||c:=ae;have f:a|||c<2^64:=apQ d e;unfold gM;rw[show bG.bits=64 from rfl,b];grind [CQ]
theorem adL (d:a<4294967296) (e:c<4294967296):gM .u32 (a:Z) (c:Z)=((a|||c:X):Z):=by have b:(cn 32 (a:Z)|||cn 32 (c:Z)).toNat=a|||c:=ae;have f:a|||c<2^32:=apQ d e;unfold gM;rw[show ch.bits=32 from rfl,b];grind [Mw]
theorem sW (a:X) (d:0<=b) (f:b<18446744073709551616) (c:Z) (e:a<=64) (i:c=2^a-1):e3 .u64 b c=b %2^a:=by obtain⟨k,rfl⟩:=gB d;have j:0<2^a:=j4 a;have g:c=((2^a-1:X):Z):=ae;have h:2^a<=2^64:=u0 ab e;grind [Nr,aoR]
theorem and_low32 (a:0<=b) (c:b<18446744073709551616):e3 .u64 b 4294967295=b %4294967296:=sW 32 a c _ ab ab
theorem nM (a:Z):eT .u64 a 32=Y (a/4294967296):=by have:eT .u64 a 32=Y (a.fdiv 4294967296):=rfl;grind
theorem ou (a:0<=b) (c:b<=64):iz .u64 e b=Y ((e*2^b.toNat) %18446744073709551616):=by unfold iz;rw[aB a,CP,show bG.bits=64 from rfl,h5 aa]
theorem ux (a:0<=b) (c:b<=64):eT .u64 e b=Y (e/2^b.toNat):=by unfold eT;rw[aB a,show bG.bits=64 from rfl,h5 aa,apR _ ae]
theorem Nt (b:X) (d:a<2^b):a|||(c*2^b)=a+c*2^b:=by rw[amY,Nat.or_comm,qk,Nat.two_pow_add_eq_or_of_lt d]
theorem nK (a:X) (d:0<=b) (h:b<2^a) (f:0<=e) (i:b<18446744073709551616) (j:e<18446744073709551616) (l:e %2^a=0):gM .u64 b e=b+e:=by obtain⟨g,rfl⟩:=gB d;obtain⟨c,rfl⟩:=gB f;have n:g<2^a:=ae;have m:c %2^a=0:=ae;rw[adM aa aa];have k:c=(c/2^a)*2^a:=(by grind [Nat.mul_comm,anI]);grind [Nt]
def aV (a:X):X:=if a=0 then 0 else a.log2+1
theorem fZ {k:X}:aV a<=k↔a<2^k:=by grind [Nat.log2_lt,amN,aV]
def vf:a<aV c↔2^a<=c:=by rw[<-Nat.not_le,fZ,Nat.not_lt]
def R7 (a b:X) (c:a<=b):2^a<=2^b:=u0 ab c
def Ll (a b:X) (c:a<b):2^a<2^b:=apS ab c
def lC (b:c<=a):aV c<=aV a:=by rw[fZ];have:=fZ.1 (bg (aV a));omega
theorem xM (b:aV a<=k) (d:aV c<=x):aV (a*c)<=k+x:=by simp_all [Nat.mul_lt_mul'',fZ,k3]
theorem QL (b:c<=x*a) (d:k<a):c+k<=(x+1)*a:=by grind
def Wh (b:X) (d:aV a<=b) (e:aV c<=b):aV (a+c)<=b+1:=by rw[fZ] at*;omega
theorem aei (d:c*2^k=a*2^x) (e:0<c):0<a:=by
 rcases qj a with b|b
 ·simp_all [apT,j4,am8]
 omega
theorem qv {m:X} (a:0<m):0<aV m:=vf.2 a
def NN {k:X} (b:2^k<=a) (c:a<2^(k+1)):aV a=k+1:=by have:=vf.2 b;have:=fZ.2 c;omega
theorem xL (b:0<a):2^(aV a-1)<=a/\a<2^aV a:=
 ⟨vf.1 (by grind [qv]),fZ.1 (bg _)⟩
theorem s5 (d:0<a) (b:X):aV (a*2^b)=aV a+b:=by
 obtain⟨e,f⟩:=xL d;have i:=j4 b;have h:=qv d;obtain⟨c,g⟩:∃c,aV a=c+1:=⟨aV a-1,aa⟩;rw[g] at e f|-;rw[(aa:c+1+b=(c+b)+1)];refine NN ?_ ?_
 ·simp_all [iX,k3]
 rw[(aa:c+b+1=(c+1)+b),k3];simp_all
theorem xN (b a:X):aV (b/2^a)=aV b-a:=by
 have c:=j4 a;apply Nat.le_antisymm
 ·rw[fZ,anH c,<-k3];exact fZ.1 aa
 rcases cY a (aV b) with d|d
 ·have:aV b-a-1<aV (b/2^a):=by
   rw[vf,apU c,<-k3];exact vf.1 aa
  omega
 omega
def w2 (c:bD) (b:Z) (d:bD) (a:Z):bD:=
 if a=1 then c else if a=2 then !c else if a=3 then br else bz (0<b)||(bz (b=0)&&d)
def la (b a:X) (c:bD):Z:=
 if 2*(b %2^a)<2^a then-1 else if 2^a<2*(b %2^a) then 1 else if c then 1 else 0
def jk (e:bD) (a b:X) (c:bD) (d:Z):X:=
 if a %2^b=0/\c=br then a/2^b
 else if w2 e (la a b c) (bz (a/2^b %2=1)) d then a/2^b+1 else a/2^b
def KG (b a c:X):b %2^(a+c)=(b/2^a %2^c)*2^a+b %2^a:=by rw[k3,Nat.mod_mul,amY,qk]
def OD (b a c:X):b/2^(a+c)=b/2^a/2^c:=by rw[k3,apV]
theorem W6 (m:bD) (b a c:X) (d:bD) (l:Z) (v:0<c):jk m b (a+c) d l=jk m (b/2^a) c (d||bz (b %2^a≠0)) l:=by
 have k:=j4 a;have j:=amm b k;have q:¬(b %2^(a+c)=0/\d=br)->la b (a+c) d=la (b/2^a) c (d||bz (b %2^a≠0)):=by
  intro _;unfold la;rw[KG,k3];obtain⟨i,rfl⟩:∃i,c=i+1:=⟨c-1,aa⟩;rw[u1];generalize u:b/2^a %(2^i*2)=h;generalize t:b %2^a=n at j|-;generalize s:2^i=g;generalize r:2^a=e at j k|-;rw[(ae:e*(g*2)=2*(g*e)),(ae:2*(h*e+n)=2*(h*e)+2*n)];rcases sO h g with f|f|f
  ·have o:(h+1)*e<=g*e:=iX _ f;grind
  ·grind
  have o:(g+1)*e<=h*e:=iX _ f;grind
 have p:(b %2^(a+c)=0/\d=br)↔(b/2^a %2^c=0/\(d||bz (b %2^a≠0))=br):=by
  rw[KG];cases d
  ·simp_all [apT,cf,Bool.false_or,anU,ne_eq,aoS]
  simp
 unfold jk;by_cases f:b %2^(a+c)=0/\d=br
 ·rw[aB f,aB (p.1 f),OD]
 simp_all [aA,OD]
def ni (b:bD) (a:Z):Z:=if b then 9223372036854775808+a else a
def sj (a:bD) (b:Z):Z:=
 if b=3\/(b=1/\a=br)\/(b=2/\a=bt) then ni a 9218868437227405311 else ni a 9218868437227405312
def pT (a:bD) (b:X) (c d:Z):Z:=
 if b<4503599627370496 then ni a b
 else if b=9007199254740992 then if c+1+1075>=2047 then sj a d else ni a ((c+1+1075)*4503599627370496)
 else if c+1075>=2047 then sj a d else ni a ((c+1075)*4503599627370496+(b-4503599627370496))
def eR (b:X) (a:Z):Z:=max (a+aV b-1-52) (-1074)
def mJ (d:bD) (b:X) (a:Z) (e:bD) (c:Z):Z:=
 if eR b a<=a then pT d (b*2^(a-eR b a).toNat) (eR b a) c
 else pT d (jk d b (eR b a-a).toNat e c) (eR b a) c
theorem agM {m k:X} {e:Z} (a:k<aV m):eR (m/2^k) (e+k)=eR m e:=by grind [xN,eR]
theorem afj {k:X} (g:k+53<aV a):mJ l a b h v=mJ l (a/2^k) (b+k) (h||bz (a %2^k≠0)) v:=by have f:=agM (m:=a) (k:=k) (e:=b) aa;have i:b+k<eR a b:=(by grind [eR]);unfold mJ;rw[f,aA aa,aA aa];obtain⟨c,d⟩:∃c:X,eR a b-b=(k+c:X):=⟨(eR a b-b-k).toNat,aa⟩;rw[d,(aa:(eR a b-(b+k)).toNat=c),gg,W6 _ _ _ _ _ _ aa]
def BD:X->X->X
 |0,_=>0
 |f+1,a=>if(2*BD f (a/4)+1)*(2*BD f (a/4)+1)<=a then 2*BD f (a/4)+1 else 2*BD f (a/4)
def J6 (a:X):X:=BD (aV a) a
abbrev p3:=bD×ak7×bw
abbrev fV:=bD×p3×Z×bw
def hJ (a:p3):Z:=if a.1 then-ak a.2.1 else ak a.2.1
def aY (a:Z):p3:=(bz (a<0),e2 a.natAbs,())
theorem pg (a:Z):hJ (aY a)=a:=by unfold hJ aY;simp only[tG,alD];omega
theorem m3 (a:Z):aX (aY a).2.1:=oZ _
def Fu (a:Z):fd (aY a).2.1:=yy _
theorem iQ (a:Z):ak (aY a).2.1=a.natAbs:=tG _
theorem yw:(aY b).2.1=[]↔b=0:=by show e2 b.natAbs=[]↔_;grind [XB]
theorem OS {neg:bD} (a:aX d) (b:fd d):(neg&&bz (d≠[]),d,())=aY (hJ (neg,d,())):=by have e:=ff a;have f:d=e2 (ak d).toNat:=amO a b;have g:d=[]↔ak d=0:=⟨λc=>by rw[c];rfl,anV a b⟩;unfold aY hJ;grind
def Hh:X->X->X
 |0,_=>0
 |f+1,a=>if a %2=0 then Hh f (a/2)+1 else 0
def db (a:X):X:=if a=0 then 0 else Hh (aV a) a
def agI:∀{a n:X},0<n->n<2^a->∃b,n=(2*b+1)*2^Hh a n:=by
 intro a
 induction a with
 |zero=>omega
 |succ a e=>
  intro n f g;unfold Hh;split
  ·rename_i c;obtain⟨b,d⟩:=e (n:=n/2) aa aa;refine⟨b,?_⟩;rw[u1,<-uZ,<-d];omega
  rename_i c;exact⟨n/2,aa⟩
theorem uB {n:X} (b:0<n):∃a,n=(2*a+1)*2^db n:=by unfold db;rw[aA aa];exact agI b (fZ.1 (bg _))
theorem Q2:∀{s t a b:X},(2*a+1)*2^s=(2*b+1)*2^t->s=t/\a=b
 |0,0,a,b,c=>by omega
 |0,t+1,a,b,c|s+1,0,a,b,c=>by grind
 |s+1,t+1,a,b,c=>by rw[u1,<-uZ,u1,<-uZ] at c;obtain⟨d,e⟩:=Q2 (s:=s) (t:=t) (a:=a) (b:=b) aa;omega
theorem zv {a:X} (b:c=(2*a+1)*2^k):db c=k:=by have e:=j4 k;have d:0<c:=ae;grind [Q2,uB]
theorem Mm (e:0<c) (b:X):db (c*2^b)=db c+b:=by obtain⟨d,f⟩:=uB e;refine zv (a:=d) ?_;grind
theorem agJ {n:X} (a:0<n):n/2^db n %2=1:=by grind [aoT,amN,uB]
theorem w1 {n:X} (a:0<n):db n<aV n:=by obtain⟨b,c⟩:=uB a;rw[vf];grind
theorem wd {n k:X} (d:0<n):k<=db n↔n %2^k=0:=by
 obtain⟨c,f⟩:=uB d;constructor
 ·intro i;obtain⟨a,b⟩:∃a,db n=a+k:=⟨db n-k,aa⟩;rw[b,k3,<-uZ] at f;simp_all
 intro j;rcases cY (db n) k with e|e
 ·exfalso;obtain⟨a,b⟩:∃a,k=db n+(a+1):=⟨k-db n-1,aa⟩;have g:n=n/2^k*2^k:=(by grind [Nat.mul_comm,anI]);have l:=j4 (db n);have h:(2*c+1)*2^db n=(2*(n/2^k*2^a))*2^db n:=by
   grind
  grind [Nat.eq_of_mul_eq_mul_right]
 omega
def q1 (b a:Z):Z:=b*2^a.toNat/2^(-a).toNat
def hR (a b:Z):ak1:=
 if a=0 then Y 0
 else if b+db a.natAbs< -65536\/65536<b+aV a.natAbs then bv
 else Y (q1 a (b+65536))
def aw:ak1->fV
 |none=>(bt,(br,[],()),0,())
 |some a=>if a=0 then(br,(br,[],()),0,()) else(br,aY (a/2^db a.natAbs),(db a.natAbs:Z)-65536,())
def fB (a:Z):Prop:=aV a.natAbs<=131072
instance(a:Z):alP (fB a):=inferInstanceAs (alP (_<=_))
def oS (a:Z):ak1:=if fB a then Y a else bv
def cN (b:ak1):Prop:=∀a,b=Y a->fB a
theorem na (b:Z) (a:X):(b*2^a).natAbs=b.natAbs*2^a:=by rw[uO,Int.natAbs_pow];rfl
theorem Jf (c:b.natAbs %2^a=0):b/2^a*2^a=b:=by grind [Int.ediv_mul_cancel,Int.ofNat_dvd_left,Nat.dvd_of_mod_eq_zero]
theorem BT (c:b.natAbs %2^a=0):(b/2^a).natAbs=b.natAbs/2^a:=by grind [na,aoT,amN,Jf]
theorem ot (b:Z) (a:X):q1 b a=b*2^a:=by grind [alO,q1]
theorem zn (b:Z) (a:X):q1 b (-(a:Z))=b/2^a:=by simp_all [Int.neg_neg,gg,q1]
def cR (a:Z):Z:=a/2^db a.natAbs
def hZ (a:Z):Z:=(db a.natAbs:Z)-65536
theorem ug (a:Z):cR a*2^db a.natAbs=a:=by
 rcases qj a.natAbs with b|b
 ·obtain rfl:a=0:=aa;rfl
 exact Jf ((wd b).1 (bg _))
def QZ (a:b≠0):(cR b).natAbs=b.natAbs/2^db b.natAbs:=BT ((wd aa).1 (bg _))
theorem jW (c:b≠0):cR b≠0:=λa=>by grind [ug]
def Q1 (c:b≠0):db (cR b).natAbs=0:=by rw[QZ c];have:=agJ (n:=b.natAbs) aa;exact zv (a:=b.natAbs/2^db b.natAbs/2) aa
theorem aaG (a:b≠0):aV (cR b).natAbs=aV b.natAbs-db b.natAbs:=by rw[QZ a,xN]
theorem Gm {v:Z}:cR v<0↔v<0:=by
 have c:=ug v;have b:(0:Z)<2^db v.natAbs:=mT ab;constructor
 ·intro a;have:=Int.mul_neg_of_neg_of_pos a b;omega
 grind [amd,am9,aln]
theorem OU (a:b≠0):aw (Y b)=(br,aY (cR b),hZ b,()):=by show(if b=0 then _ else _)=_;rw[aA a];rfl
theorem BR {v:Z} (i:-65536<=b) (c:v=e*2^(b+65536).toNat):hR e b=oS v:=by
 obtain⟨d,g⟩:∃d:X,b+65536=d:=⟨(b+65536).toNat,aa⟩;rw[g,gg] at c;unfold hR oS;by_cases f:e=0
 ·subst f;simp only[oz] at c;subst c;rw[aB bq,aB (show fB 0 from(by decide:aV 0<=131072))]
 rw[aA f];have h:aV v.natAbs=aV e.natAbs+d:=(by grind [na,s5]);by_cases a:fB v
 ·rw[aB a];unfold fB at a;rw[aA aa,g,ot,c]
 rw[aA a];unfold fB at a;grind
theorem aaa (a:fB b):hR (cR b) (hZ b)=Y b:=by
 by_cases c:b=0
 ·subst c;rfl
 rw[BR (v:=b) (by grind [hZ]) (by
  grind [ug,db,hZ])]
 exact aB a
theorem KE (f a:Z):cN (hR f a):=by
 intro i b;unfold hR at b;split at b
 ·cases b;show aV 0<=_;decide
 split at b
 ·cases b
 rename_i g h;cases b;unfold fB;rcases apW 0 (a+65536) with e|e
 ·obtain⟨c,d⟩:∃c:X,a+65536=c:=⟨(a+65536).toNat,aa⟩;grind [ot,na,s5]
 obtain⟨c,d⟩:∃c:X,a+65536=-(c:Z):=⟨(-(a+65536)).toNat,aa⟩;rw[d,zn,BT ((wd aa).1 aa),xN];omega
theorem N6 (a:Z):cN (oS a):=by intro c b;grind [oS]
def Sq (c a d b:X) (f:0<a):c*2^d/a=c*2^(d+b)/a/2^b:=by have e:=j4 b;rw[apV,k3,<-uZ,Nat.mul_div_mul_right _ _ e]
def aew (d a c b:X) (m:0<a):d*2^c %a≠0↔(d*2^(c+b) %a≠0\/d*2^(c+b)/a %2^b≠0):=by
 have t:=j4 b;have r:=uY (d*2^c) a;have j:=uY (d*2^(c+b)) a;have k:=uY (d*2^(c+b)/a) (2^b);rw[<-Sq d a c b m] at k;generalize d*2^(c+b)/a=o at*;generalize d*2^c/a=g at*;generalize d*2^c %a=i at*;generalize d*2^(c+b) %a=h at*;generalize o %2^b=p at*;rw[k3] at j;generalize 2^b=e at*;generalize 2^c=v at*;have l:i*e=a*p+h:=(by have s:(a*g+i)*e=a*o+h:=(by rw[r,j,uZ]);rw[<-k,kL,Nat.mul_add] at s;have w:a*g*e=a*(e*g):=ae;omega);constructor
 ·intro y;have x:0<i*e:=apX aa t;by_cases n:h=0
  ·right;intro u;subst u;subst n;simp at l;omega
  exact .inl n
 rintro f q;subst q;simp only[am8] at l;rcases f with f|f
 ·omega
 have:=apX m (aa:0<p);omega
def sn (a b c:X) (f:bD) (d e:Z):Z:=mJ f (b*2^a/c) (d-a) (bz (b*2^a %c≠0)) e
def GO (h:0<a) (e:0<c) (i:58+aV c<=aV a+k):58<=aV (a*2^k/c):=by
 rcases cY 57 (aV (a*2^k/c)) with b|b
 ·exact b
 exfalso;have d:a*2^k/c<2^57:=fZ.1 b;rw[anH e] at d;have f:=(xL e).2;have g:a*2^k<2^57*2^aV c:=jG d (aoU _ (Nat.le_of_lt f));rw[<-k3,<-fZ,s5 h] at g;omega
def aeu {f:X} (l:0<c) (g:0<x) (j:58+aV x<=aV c+a) (n:a<=f):sn f c x h b e=sn a c x h b e:=by obtain⟨d,rfl⟩:∃d,f=a+d:=⟨f-a,aa⟩;unfold sn;have o:=GO l g j;have i:=Sq c x a d g;have m:d+53<aV (c*2^(a+d)/x):=(by have:=xN (c*2^(a+d)/x) d;rw[<-i] at this;omega);rw[afj (k:=d) m,<-i,(aa:b-((a+d:X):Z)+d=b-a)];congr 1;rw[<-Bool.decide_or,cy];exact(aew c x a d g).symm
def SY (a b:X) (c d:Z):Z:=mJ br (J6 (b*2^a)) ((c-a)/2) (bz (J6 (b*2^a)*J6 (b*2^a)≠b*2^a)) d
def ze (a b:Z):Z:=if a=0 then 0 else mJ (bz (a<0)) (cR a).natAbs (hZ a) br b
def nL (a b:X):X:=59+aV b-aV a
def wK (a b c:Z):Z:=sn (nL (cR a).natAbs (cR b).natAbs) (cR a).natAbs (cR b).natAbs (bz (a<0)!=bz (b<0)) (hZ a-hZ b) c
def aev {pQ:Z} (c:b≠0) (d:e≠0) (f:nL (cR b).natAbs (cR e).natAbs<=a):sn a (cR b).natAbs (cR e).natAbs (bz (b<0)!=bz (e<0)) (hZ b-hZ e) pQ=wK b e pQ:=by have g:=jW c;have h:=jW d;refine aeu aa aa ?_ f;unfold nL;omega
def SX (a:X) (b:Z):X:=if(b-((118-aV a:X):Z)) %2=0 then 118-aV a else 118-aV a+1
def LI (a b:Z):Z:=SY (SX (cR a).natAbs (hZ a)) (cR a).natAbs (hZ a) b
theorem eP {b:bp n} (c:a<b.length):aq b (a:Z)=Y b[a]:=fR (bh c)
theorem CN (b:a<9223372036854775808):az (a:Z)=(a:Z):=cx aa aa
theorem cF {x:Z} (a:-9223372036854775808<=x) (b:x<=9223372036854775807):az x=x:=cx a b
theorem a9 (b:a<9223372036854775807):aO (a:Z)=((a+1:X):Z):=by grind [cx]
theorem fM {x:Z} (a:0<=x) (b:x<18446744073709551616):aR x=x:=CQ a b
theorem lV {x:Z} (a:0<=x) (b:x<4294967296):eD x=x:=Mw a b
theorem p1 (a:Z):eD a=a %4294967296:=Mv a
theorem sy (a:Z):aR a=a %18446744073709551616:=CP a
theorem se (a:0<=b) (c:b<18446744073709551616):eD (e3 bG b 4294967295)=b %4294967296:=by rw[and_low32 a c,lV aa aa]
theorem a7 (a:bp n):ar a=(a.length:Z):=rfl
theorem G6 {b:bp n} (e:a<=b.length):((Y (0:X)).bind λc=>(gF (a:Z)).bind λd=>(he c d b.length).map λ_=>(c,d))=Y (0,a):=by simp_all [aF,wv,qN,dj]
theorem pf (n:aX d) (o:d.length<=100000000):i5 (d,())=Y (iT d,()):=by
 unfold i5;refine bQ.1 ?_;refine ah.aJ (P:=λk=>∃a:X,k.1=(a:Z)/\a<=d.length/\(∀b,a<=b->(i:b<d.length)->d[b]=0)/\fd (d.take a)) ?_ ?_
 ·refine als (λf=>∃a:X,f.1=(a:Z)/\a<=d.length/\(∀b,a<=b->(i:b<d.length)->d[b]=0)) (λf=>f.1.toNat) ⟨d.length,bq,bg _,λb c e=>by omega⟩ ?_;rintro⟨_,_⟩ ⟨a,rfl,c,e⟩;rcases a with _|a
  ·refine bu.2 ⟨0,bq,dj _,e,λl j=>by grind⟩
  have ax:az (((a+1:X):Z)-1)=(a:Z):=(by grind [cF]);have h:bz (((a+1:X):Z)>0)=bt:=aI aa;simp only[ax,h,alC,bI,eP (show a<d.length from c),aF];by_cases g:d[a]=0
  ·rw[gp,aI g];grind [cq,bu]
  rw[gp,aD g];refine bu.2 ⟨a+1,bq,c,e,λl j=>?_⟩;grind
 rintro⟨_,_⟩ ⟨a,rfl,c,e,m⟩;refine ah.of_eq (aj (G6 c) rfl) ?_;grind [T6]
theorem Am (b:d.length<=100000000):vD (d,())=Y (d,()):=by unfold vD;have a:((cI (([]:ak7).length+d.length)).bind λ_=>Y (([]++d:ak7),()))=Y (d,()):=(by grind [c9]);show sh d.length (Y ([],())) ((cI (([]:ak7).length+d.length)).bind λ_=>Y (([]++d:ak7),()))=_;unfold sh;grind
theorem tX:(ar d==0)=bz (d=[]):=by simp_all [List.length_eq_zero_iff,gp,cy]
theorem xI (c:aX d) (e:d.length<=100000000):my (h,d,())=Y (aY (hJ (h,d,())),()):=by unfold my;refine aj (pf c e) ?_;have a:=OS (neg:=h) (Mi d) (T5 d);have b:hJ (h,iT d,())=hJ (h,d,()):=(by grind [Mj,hJ]);rw[<-b,<-a];simp only[tX,cW];grind
def Xy (c:b.natAbs<2^(32*a)):(aY b).2.1.length<=a:=by refine rX ?_;unfold a2;have d:(2^(32*a):X)=4294967296^a:=(by rw[aoV]);rw[d] at c;have:((4294967296^a:X):Z)=4294967296^a:=ac;omega
def Fit (a:Z):Prop:=(aY a).2.1.length<=31250
def OR (a:X) (c:aV b.natAbs<=32*a):(aY b).2.1.length<=a:=Xy (fZ.1 c)
def jU (a:aV b.natAbs<=1000000):Fit b:=OR 31250 aa
def aaB {b:p3} (c:aX b.2.1) (a:b.2.1.length<=100000000):D0 (b,())=Y (aY (hJ b),()):=by obtain⟨e,d,_⟩:=b;unfold D0;exact aj (Am a) (aj (xI c a) rfl)
theorem Hk (a:bD) (b:ak7):hJ (!a,b,())=-hJ (a,b,()):=by unfold hJ;cases a<;>simp
theorem Uk (b:aX d) (a:bD):hJ (br,d,())=(hJ (a,d,())).natAbs:=by have:=ff b;unfold hJ;cases a<;>simp<;>omega
def QS (e:Fit b):tj (aY b,())=Y (aY (-b),()):=by unfold tj;have a:(aY b).2.1.length<=100000000:=dk e ab;refine aj (Am a) (aj (xI (m3 b) a) ?_);have c:=Hk (aY b).1 (aY b).2.1;have d:=pg b;rw[c];show Y (aY (-hJ (aY b)),())=_;rw[d]
def z9 (d:Fit b):te (aY b,())=Y (aY b.natAbs,()):=by unfold te;have a:(aY b).2.1.length<=100000000:=dk d ab;refine aj (Am a) (aj (xI (m3 b) a) ?_);rw[Uk (m3 b) (aY b).1];have c:=pg b;show Y (aY ((hJ (aY b)).natAbs:Z),())=_;rw[c]
def T3 (c:Fit b):i5 ((aY b).2.1,())=Y ((aY b).2.1,()):=by rw[pf (m3 b) (dk c ab)];have a:=amO (m3 b) (Fu b);show Y (e2 (ak (aY b).2.1).toNat,())=_;rw[<-a]
def gI (a:Z):Z:=if a=0 then 0 else if a<0 then-1 else 1
def uy {z:Z} (a:Fit z):qA (aY z,())=Y (gI z,()):=by
 unfold qA;refine aj (T3 a) ?_;simp only[tX,cW,yw];unfold gI;split
 ·rfl
 show(bif bz (z<0) then _ else _)=_;rw[cW];split<;>rfl
theorem ah.steps {h:n->bA (n⊕u)} {g:u->Prop} (f:X) (d:X->n->Prop) {l:n} (o:d 0 l) (q:∀b a,b<f->d b a->ah (h a) (λ|.inl s=>d (b+1) s|.inr c=>g c)) (p:∀a,d f a->ah (h a) (λ|.inl _=>b7|.inr c=>g c)):ah (l0.loop h l) g:=by
 have r:∀e b a,b+e=f->d b a->∃c,kE h (e+1) a=Y c/\g c:=by
  intro e
  induction e with
  |zero=>
   intro b a m k;obtain rfl:b=f:=m;obtain⟨t,i,j⟩:=p a k;grind [kE]
  |succ e v=>
   intro b a m k;obtain⟨t,i,j⟩:=q b a aa k;grind [kE]
 obtain⟨c,i,j⟩:=r f 0 l aa o;exact⟨c,yR.2 ⟨_,i⟩,j⟩
theorem zx (b:ak7) (a:X):ak (b.take (a+1))=ak (b.take a)+a2 a*b.getD a 0:=by grind [cj,amJ,iU,bV,cq]
theorem aX.getD {a:ak7} (d:aX a) (c:X):0<=a.getD c 0/\a.getD c 0<4294967296:=by
 rcases cY c a.length with b|b
 ·rw[k2,bh b];exact d.get b
 grind
theorem jL (b:a<d.length):d.getD a 0=d[a]:=by grind
theorem pN (b:d.length<=a):d.getD a 0=0:=by grind
theorem Sg (r:aX d) (s:aX f) (y:d.length<=10000000) (z:f.length<=10000000):x5 (d,f,())=Y (e2 (ak d+ak f).toNat,()):=by
 unfold x5;refine bQ.1 ?_;refine ah.aJ (P:=λh=>∃i p,h=(i,p,())/\aX i/\aX p/\i.length<=10000000/\p.length<=i.length/\ak i+ak p=ak d+ak f) ?_ ?_
 ·simp only[cW];refine ah.ite (λj=>bu.2 ⟨f,d,bq,s,r,z,?_,anW _ _⟩) λj=>bu.2 ⟨d,f,bq,r,s,y,?_,bq⟩
  ·grind
  grind
 rintro _ ⟨c,m,rfl,B,C,I,F,w⟩;rw[<-w];clear w r s y z;dsimp only;have A:aO (ar c)=((c.length+1:X):Z):=a9 aa;have ax:fS 0 ((c.length+1:X):Z)=Y 0:=(by unfold fS;rw[b9 ⟨aa,aa,by have:h1=4294967296:=rfl;omega⟩];rfl);rw[A,ax];refine ah.aJ (P:=λh=>∃b a,h=(b,a,())/\a.length=c.length/\aX a/\0<=b/\b<=1/\ak a+a2 c.length*b=ak c+ak m) ?_ ?_
 ·refine ah.steps c.length (λe D=>∃b a,D=(b,(e:Z),a,())/\a.length=e/\aX a/\0<=b/\b<=1/\ak a+a2 e*b=ak (c.take e)+ak (m.take e)) ⟨0,[],bq,bq,alQ,aa,aa,by simp[ak]⟩ ?_ ?_
  ·rintro e _ t ⟨b,a,rfl,n,k,l,q,v⟩;have G:=B.get t;have H:=C.getD e;have o:∃g,g=c[e]+b+m.getD e 0/\0<=g/\g<18446744073709551616/\g/4294967296<=1:=⟨_,bq,aa,aa,aa⟩;obtain⟨g,o,J,K,E⟩:=o;have u:bz ((e:Z)<ar c)=bt:=aI ae;simp only[u,bI,eP t,aF];refine ah.aJ (P:=λh=>h=(g/4294967296,a++[g %4294967296],())) ?_ ?_
   ·refine ah.aJ (P:=λh=>h=(g,a,())) ?_ ?_
    ·simp only[cW];refine ah.ite (λj=>?_) λj=>?_
     ·grind [fM,bu,jL,eP,a7]
     have j:m.length<=e:=ae;rw[pN j] at o;refine bu.2 ?_;rw[fM (x:=c[e]) aa aa,fM (x:=c[e]+b) aa aa,o,ana]
    grind [c9,se,nM,bu]
   rintro _ rfl;dsimp only;refine bu.2 ⟨g/4294967296,a++[g %4294967296],by rw[a9 aa],ae,k.snoc aa aa,aa,E,?_⟩;rw[q9,n,iq,iU t,zx];grind
  rintro _ ⟨b,a,rfl,n,k,l,q,v⟩;have u:bz ((c.length:Z)<ar c)=br:=aD ae;simp only[u,bR];refine bu.2 ⟨b,a,bq,n,k,l,q,?_⟩;simp_all [fD,bg]
 rintro _ ⟨b,a,rfl,n,k,l,q,v⟩;dsimp only;rw[c9 ae,lV l aa];refine ah.of_eq (aj bq (aj (pf (k.snoc l aa) ae) rfl)) ?_;grind [q9,iT]
def ji (b:ak7) (c:X):Prop:=∀a,c<=a->(d:a<b.length)->b[a]=0
def ji.mg (b a:X):ji (bJ b (0:Z)) a:=λd _ c=>by simp
def ji.set {b:ak7} {a:X} (c:ji b a) (e:Z):ji (b.set a e) (a+1):=λd f g=>by rw[zR aa];exact c d aa _
def ji.LX {j:X} (b:ji d a) (f:Z) (g:j<a):ji (d.set j f) a:=λe c h=>by rw[zR aa];exact b e c _
theorem Qy (q:aX d) (r:aX f) (C:d.length<=10000000) (y:f.length<=d.length) (z:ak f<=ak d):x4 (d,f,())=Y (e2 (ak d-ak f).toNat,()):=by
 unfold x4;refine bQ.1 ?_;simp only[a7,hP (aa:d.length<=4294967296),aF];refine ah.aJ (P:=λh=>∃a b,h=(a,())/\a.length=d.length/\aX a/\0<=b/\b<=1/\ak a-a2 d.length*b=ak d-ak f) ?_ ?_
 ·refine ah.steps d.length (λc t=>∃b a,t=(b,(c:Z),a,())/\a.length=d.length/\aX a/\ji a c/\0<=b/\b<=1/\ak a-a2 c*b=ak (d.take c)-ak (f.take c)) ⟨0,_,bq,ac,alR _,ji.mg _ _,aa,aa,by simp[ak,p0]⟩ ?_ ?_
  ·rintro c _ l ⟨b,a,rfl,i,g,n,j,k,o⟩;have A:=q.get l;have B:=r.getD c;obtain⟨e,x,u,v⟩:∃e,e=d[c]-b-f.getD c 0/\-4294967296<=e/\e<4294967296:=⟨_,bq,aa,aa⟩;have m:bz ((c:Z)<(d.length:Z))=bt:=aI aa;simp only[a7,m,bI,eP l,aF];refine ah.aJ (P:=λh=>h=(-(e/4294967296),a.set c (e %4294967296),())) ?_ ?_
   ·refine ah.aJ (P:=λh=>h=(e %18446744073709551616,a,())) ?_ ?_
    ·simp_all [pN,bu,sy,eP,jL,ah.ite,cW]
    rintro _ rfl;dsimp only;rw[se aa aa,lX aa,nM];refine bu.2 ?_;rw[sW 1 aa aa 1 ab ab];grind
   rintro _ rfl;dsimp only;refine bu.2 ⟨-(e/4294967296),a.set c (e %4294967296),by rw[a9 aa],ae,g.set aa aa,n.set _,aa,aa,?_⟩;rw[nl aa,n c (cc _) aa,iq,iU l,zx];grind
  rintro _ ⟨b,a,rfl,i,g,n,j,k,o⟩;have m:bz ((d.length:Z)<(d.length:Z))=br:=aD aa;simp only[a7,m,bR];refine bu.2 ⟨a,b,bq,i,g,j,k,?_⟩;simp_all [fD,bg]
 rintro _ ⟨a,b,rfl,i,g,j,k,o⟩;dsimp only;have p:=ho g;have w:=gm d.length;rw[i] at p;have s:b=0:=ae;subst s;refine ah.of_eq (aj (pf g aa) rfl) ?_;grind [iT]
def fo (a b:Z):Z:=if a<b then-1 else if b<a then 1 else 0
theorem DA (a b:Z):vr (a,b,())=Y (fo a b,()):=by grind [vr,tb,fo]
theorem WX (a b:Z):DD (a,b,())=Y (fo a b,()):=by grind [DD,DF,fo]
theorem Hl (e:aX d) (g:aX f) (h:a<d.length) (i:a<f.length) (b:ak (d.drop (a+1))=ak (f.drop (a+1))) (l:d[a]<f[a]):ak d<ak f:=by rw[ph d a aa,ph f a aa,nk h,nk i,b];have c:=ho (e.take a);have j:=ff (g.take a);rw[gu,h5 aa] at c;have k:a2 a*(d[a]+1)<=a2 a*f[a]:=j2 aa (fu (gm a));grind
def q8 (a:aX f) (b:aX d) (c:fd d) (e:f.length<d.length):ak f<ak d:=by have g:=ho a;have h:=fd.low b c ae;have i:=pV (m:=f.length) (n:=d.length-1) aa;omega
theorem Iw (g:aX d) (h:aX f) (q:fd d) (r:fd f) (u:d.length<=10000000) (v:f.length<=10000000):x3 (d,f,())=Y (fo (ak d) (ak f),()):=by
 unfold x3;refine bQ.1 ?_;simp only[fJ,a7];by_cases m:d.length=f.length
 ·rw[aI (aa:(d.length:Z)=f.length)];simp only[g7,bR];refine ah.aJ (P:=λn=>match n with|.inl _=>ak d=ak f|.inr o=>o=(fo (ak d) (ak f),())) ?_ ?_
  ·refine ah.steps d.length (λc p=>p=(((d.length:X):Z)-1-c,())/\ak (d.drop (d.length-c))=ak (f.drop (d.length-c))) ⟨?_,?_⟩ ?_ ?_
   ·grind [cF]
   ·rw[oC aa,oC aa]
   ·rintro c _ s ⟨rfl,e⟩;obtain⟨a,t⟩:∃a,d.length=a+1+c:=⟨d.length-1-c,aa⟩;have ax:((d.length:X):Z)-1-(c:Z)=(a:Z):=aa;have j:a<d.length:=aa;have k:a<f.length:=aa;rw[(aa:d.length-c=a+1)] at e;simp only[ax,aI (aa:(a:Z)>=0),bI,eP j,eP k,aF,WX];by_cases i:d[a]=f[a]
    ·simp only[aI i,g7,bR];grind [nk,cF,bu]
    simp only[aD i,mP,bI];refine bu.2 ?_;show(fo d[a] f[a],())=_;have l:fo d[a] f[a]=fo (ak d) (ak f):=by
     unfold fo;rcases Int.lt_or_gt_of_ne i with b|b
     ·rw[aB b,aB (Hl g h j k e b)]
     have:=Hl h g k j e.symm b;omega
    rw[l]
   rintro _ ⟨rfl,e⟩;have ax:¬(((d.length:X):Z)-1-(d.length:Z)>=0):=aa;simp_all [bu,aD,bR]
  grind [bu,fo,ak]
 rw[aD (aa:¬(d.length:Z)=f.length)];simp only[mP,bI,DA,aF];refine bu.2 ?_;congr 1;unfold fo;rcases Nat.lt_or_gt_of_ne m with b|b
 ·rw[aB aa,aB (q8 g h r b)]
 have:=q8 h g q b;omega
def BS {x y:Z} (b:0<=x/\x<4294967296) (a:0<=y/\y<4294967296):0<=x*y/\x*y<=18446744065119617025:=by refine⟨mS b.1 a.1,?_⟩;have c:x*y<=4294967295*y:=nR aa a.1;omega
theorem afp (x:0<=b/\b<4294967296) (w:aX d) (K:a+d.length<c) (I:c<=100000000) (u:f.length=c) (v:aX f) (z:ji f (a+d.length)) {p:jh->Prop} (J:∀h e,e.length=c->aX e->ji e (a+d.length)->0<=h->h<4294967296->ak e+a2 (a+d.length)*h=ak f+a2 a*(b*ak d)->p (h,e,())):ah (loop (σ:=qq) (ρ:=jh) (λ(k,j,m,_)=>
 bif bz (j<ar d) then
 (aq d j).bind λr=>
 rd m (az ((a:Z)+j)) λs=>
 wr m (az ((a:Z)+j)) (eD (e3 bG (aR (aR (aR (aR b*aR r)+aR s)+k)) 4294967295)) λH=>
 (eT bG (aR (aR (aR (aR b*aR r)+aR s)+k)) 32).bind λG=>
 Y (.inl (G,aO j,H,())) else
 Y (.inr (k,m,()))) (0,0,f,())) p:=by
 refine ah.steps d.length (λg D=>∃h e,D=(h,(g:Z),e,())/\e.length=c/\aX e/\ji e (a+d.length)/\0<=h/\h<4294967296/\ak e+a2 (a+g)*h=ak f+a2 a*(b*ak (d.take g))) ⟨0,f,bq,u,v,z,aa,aa,by simp[ak]⟩ ?_ ?_
 ·rintro g _ l ⟨h,e,rfl,aE,o,q,A,B,C⟩;have y:=w.get l;have M:=o.get (n:=a+g) aa;have L:=BS x y;obtain⟨i,N,E,F⟩:∃i,i=b*d[g]+e[a+g]+h/\0<=i/\i<18446744073709551616:=⟨_,bq,aa,aa⟩;simp only[aI (ae:(g:Z)<ar d),bI,eP l,aF];have ax:az ((a:Z)+(g:Z))=((a+g:X):Z):=(by grind [cF]);rw[ax,jM aa];have t:aR (aR (aR (aR b*aR d[g])+aR e[a+g])+h)=i:=by
   grind [fM]
  rw[t,se E F,lX aa,nM];refine bu.2 ⟨i/4294967296,e.set (a+g) (i %4294967296),by rw[a9 aa],ae,o.set aa aa,q.LX _ aa,aa,aa,?_⟩;rw[nl aa,(aa:a+(g+1)=(a+g)+1),iq,iU l];grind [uH,amu]
 rintro _ ⟨h,e,rfl,aE,o,q,A,B,C⟩;simp_all [fD,bg,bu,aD,a7,bR,ar]
theorem agz (v:aX f) (w:aX d) (z:f.length<=10000000) (A:d.length<=10000000):D4 (f,d,())=Y (e2 (ak f*ak d).toNat,()):=by
 unfold D4;refine bQ.1 ?_;simp only[tX];refine ah.aJ (P:=λp=>match p with|.inl _=>f≠[]/\d≠[]|.inr h=>h=(e2 (ak f*ak d).toNat,())) ?_ ?_
 ·by_cases l:f=[]
  ·simp only[aI l];refine bu.2 ?_;subst l;simp[ak];rfl
  simp only[aD l,alC,bI];by_cases r:d=[]
  ·simp only[aI r,bI];refine bu.2 ?_;subst r;simp[ak];rfl
  simp_all [aD,bR,bu]
 rintro(p|p) x
 rotate_left
 ·grind [bu]
 clear x;dsimp only;have u:az (ar f+ar d)=((f.length+d.length:X):Z):=(by grind [cF,a7]);rw[u,hP aa,bM];refine ah.aJ (P:=λh=>∃a,h=(a,())/\a.length=f.length+d.length/\aX a/\ak a=ak f*ak d) ?_ ?_
 ·refine ah.steps f.length (λb y=>∃a,y=((b:Z),a,())/\a.length=f.length+d.length/\aX a/\ji a (b+d.length)/\ak a=ak (f.take b)*ak d) ⟨_,bq,ac,alR _,ji.mg _ _,by simp[ak,p0]⟩ ?_ ?_
  ·rintro b _ m ⟨a,rfl,aE,g,q,t⟩;simp only[aI (ae:(b:Z)<ar f),bI,eP m,bM];refine ah.aJ (P:=λh=>∃e c,h=(e,c,())/\c.length=f.length+d.length/\aX c/\ji c (b+d.length)/\0<=e/\e<4294967296/\ak c+a2 (b+d.length)*e=ak a+a2 b*(f[b]*ak d)) (afp (v.get m) w aa aa aE g q λe c s n i j k o=>⟨e,c,bq,s,n,i,j,k,o⟩) ?_;rintro _ ⟨e,c,rfl,s,n,i,j,k,o⟩;have ax:az ((b:Z)+ar d)=((b+d.length:X):Z):=(by grind [cF,a7]);dsimp only;rw[ax,lV j k,lX aa];refine bu.2 ⟨c.set (b+d.length) e,by rw[a9 aa],ae,n.set j k,?_,?_⟩
   ·rw[(aa:b+1+d.length=b+d.length+1)];exact i.set _
   rw[nl aa,i _ (bg _) aa,iU m,anX,o,t];grind
  rintro _ ⟨a,rfl,aE,g,q,t⟩;simp only[aD (ae:¬((f.length:Z)<ar f)),bR];refine bu.2 ⟨a,bq,aE,g,?_⟩;grind
 rintro _ ⟨a,rfl,aE,g,q⟩;refine ah.of_eq (aj (pf g ae) rfl) ?_;grind [iT]
theorem ZH:∀a:X,a<256->q5 F5 (a:Z)=Y (aV a:Z):=by have b:(bK 256).all (λa=>q5 F5 (a:Z)==Y (aV a:Z))=bt:=(by decide+kernel);grind
def LY {x y:Z} (a:0<=y) (b:y<=32):eT .u32 x y=Y (x/2^y.toNat):=by unfold eT;rw[aB a,show ch.bits=32 from rfl,h5 aa,apR _ ae]
def Tv (a:0<=b) (c:b<=32):iz .u32 e b=Y ((e*2^b.toNat) %4294967296):=by unfold iz;rw[aB a,Mv,show ch.bits=32 from rfl,h5 aa]
def ahh (a:0<=b) (c:b<256):aoP.wrap b=b:=by unfold amK;refine(aA (ac:¬(br&&bz (b %256>=(128:Z)))=bt)).trans ?_;show b %256=b;omega
def NO {n k:X} (a:2^k<=n):aV n=aV (n/2^k)+k:=by rw[xN];have:=vf.2 a;omega
theorem Kl {n:X} (g:n<4294967296):ya ((n:Z),())=Y ((aV n:Z),()):=by
 unfold ya;refine bQ.1 ?_;refine ah.aJ (P:=λd=>∃a b:X,d=((a:Z),(b:Z),())/\a<65536/\aV n=aV a+b/\b<=16) ?_ ?_
 ·simp only[cW];refine ah.ite (λe=>?_) λe=>?_
  ·rw[LY ab ab];refine bu.2 ⟨n/2^16,16,?_,aa,NO aa,aa⟩;simp
  exact bu.2 ⟨n,0,bq,aa,bq,aa⟩
 rintro _ ⟨a,b,rfl,e,h,i⟩;refine ah.aJ (P:=λd=>∃a b:X,d=((a:Z),(b:Z),())/\a<256/\aV n=aV a+b/\b<=24) ?_ ?_
 ·simp only[cW];refine ah.ite (λc=>?_) λc=>?_
  ·rw[LY ab ab];refine bu.2 ⟨a/2^8,b+8,?_,aa,by have:=NO (n:=a) (k:=8) aa;omega,aa⟩;grind [cx]
  grind [bu]
 rintro _ ⟨f,o,rfl,c,j,l⟩;dsimp only;rw[ahh aa aa,ZH f c];refine bu.2 ?_;have m:aV f<=8:=fZ.2 aa;grind [cx]
theorem Wi {l:ak7} {x:Z} (g:aX l) (p:0<x):aV (ak l+a2 l.length*x).toNat=32*l.length+aV x.toNat:=by
 obtain⟨b,rfl⟩:=gB (fu p);obtain⟨d,o⟩:=gB (ff g);have f:=ho g;rw[o] at f|-;have n:a2 l.length=((2^(32*l.length):X):Z):=(by simp_all [aoV,a2]);rw[n] at f|-;generalize 32*l.length=a at*;have h:0<b:=aa;have j:((d:Z)+((2^a:X):Z)*(b:Z)).toNat=d+2^a*b:=aa;show aV ((d:Z)+((2^a:X):Z)*(b:Z)).toNat=_;rw[j];obtain⟨e,i⟩:=xL h;have q:=qv h;obtain⟨c,m⟩:∃c,aV b=c+1:=⟨aV b-1,aa⟩;show _=a+aV b;rw[m] at e i|-;have r:d<2^a:=aa;refine NN (k:=a+c) ?_ ?_
 ·rw[k3];have:=aoU (2^a) e;grind
 rw[u1,k3] at*;have:=aoU (2^a) (aa:b+1<=2^c*2);grind
theorem P6 (c:aX d) (h:fd d) (k:d.length<=10000000):AF (d,())=Y ((aV (ak d).toNat:Z),()):=by
 unfold AF;simp only[tX,cW];split
 ·rename_i a;subst a;rfl
 rename_i a;have m:0<d.length:=zS.2 a;have ax:az (ar d-1)=((d.length-1:X):Z):=(by grind [cF,a7]);rw[ax,eP aa];have e:=c.get (n:=d.length-1) aa;have i:d[d.length-1]≠0:=h _ (by rw[apY,bh aa]);have f:ak d=ak (d.take (d.length-1))+a2 (d.length-1)*d[d.length-1]:=(by grind [iU,cj]);have b:=Wi (l:=d.take (d.length-1)) (x:=d[d.length-1]) (c.take _) aa;rw[gu,h5 aa,<-f] at b;rw[b];obtain⟨n,g⟩:=gB e.1;rw[g] at e|-;refine aj bq (aj (Kl (n:=n) aa) ?_);have j:aV n<=32:=fZ.2 aa;grind [cF]
def xK (a:Fit b):th (aY b,())=Y ((aV b.natAbs:Z),()):=by unfold th;refine aj (T3 a) (aj (P6 (m3 b) (Fu b) (dk a ab)) ?_);rw[iQ];rfl
theorem ZT (q:c=(2*k+1)*2^a) (m:c<2^32):c&&&(2^32-c)=2^a:=by
 have p:=j4 a;have n:0<c:=ae;obtain⟨e,g⟩:∃e,c=e+1:=⟨c-1,aa⟩;have l:e=2^a*(2*k)+(2^a-1):=ae;have r:c=2^a*(2*k+1)+0:=ae;refine apZ λb=>?_;rw[ap0,g,Nat.testBit_two_pow_sub_succ aa,<-g];have ax:c.testBit b=if b<a then br else(2*k+1).testBit (b-a):=by grind
 have i:e.testBit b=if b<a then(2^a-1).testBit b else(2*k).testBit (b-a):=by rw[l,Nat.testBit_two_pow_mul_add _ aa]
 rw[ax,i,aoK];by_cases f:b<a
 ·grind
 rw[aA f,aA f];by_cases j:a=b
 ·subst j;have d:a<32:=by
   rcases cY a 32 with d|d
   ·exact d
   have:=u0 (ab:1<=2) d;omega
  grind
 obtain⟨h,o⟩:∃h,b-a=h+1:=⟨b-a-1,aa⟩;grind
theorem Wp:∀a:X,a<32->aq qw (2^a*125613361 %4294967296/2^(27:Z).toNat)=Y (a:Z):=by have b:(bK 32).all (λa=>aq qw (2^a*125613361 %4294967296/2^(27:Z).toNat)==Y (a:Z))=bt:=(by decide+kernel);grind
theorem Ub (e:0<a) (c:a<4294967296) (b:Z):eD (e3 ch (a:Z) (eD (0-(a:Z)))*b)=2^db a*b %4294967296:=by obtain⟨g,f⟩:=uB e;have ax:eD (0-(a:Z))=((2^32-a:X):Z):=(by grind [p1]);have d:((2^db a:X):Z)=2^db a:=ac;rw[ax,Nq c aa,ZT f c,p1,d]
theorem Uc {n:X} (b:0<n) (a:n<4294967296):yb ((n:Z),())=Y ((db n:Z),()):=by have e:db n<32:=jG (w1 b) (fZ.2 a);have d:=Wp _ e;have c:=LY (x:=eD (e3 ch (n:Z) (eD (0-(n:Z)))*125613361)) (y:=27) ab ab;rw[Ub b a 125613361] at c;unfold yb;show(bif (n:Z)==0 then Y (32,()) else(eT ch (eD (e3 ch (n:Z) (eD (0-(n:Z)))*125613361)) 27).bind λf=>(aq qw f).bind λg=>Y (az g,()))=_;rw[aP ae,Ub b a 125613361,c];refine aj bq (aj d ?_);grind [cF]
theorem Ud {x:Z} (r:ak (d.take c)=0) (g:c<d.length) (h:aX d) (s:d[c]≠0):db (ak d).toNat=32*c+db (d[c]).toNat:=by
 have q:=h.get g;rw[ph d c aa,r,nk g];have p:=ff (h.drop (c+1));generalize ak (d.drop (c+1))=u at*;generalize d[c]=v at*;obtain⟨b,rfl⟩:=gB q.1;obtain⟨e,rfl⟩:=gB p;have i:0<b:=aa;obtain⟨j,m⟩:=uB i;have t:db b<32:=jG (w1 i) (fZ.2 aa);have o:a2 c=((2^(32*c):X):Z):=(by unfold a2;rw[aoV];simp);have k:(0+a2 c*((b:Z)+4294967296*(e:Z))).toNat=(b+4294967296*e)*2^(32*c):=(by rw[o,amv,qk (b+4294967296*e)];have:((2^(32*c):X):Z)*((b:Z)+4294967296*(e:Z))=((2^(32*c)*(b+4294967296*e):X):Z):=(by rw[uP];simp);rw[this];rfl);show db (0+a2 c*((b:Z)+4294967296*(e:Z))).toNat=32*c+db b;rw[k,Mm aa,amY];congr 1;obtain⟨f,n⟩:∃f,32=db b+(f+1):=⟨31-db b,aa⟩;refine zv (a:=j+2^f*e) ?_;have l:(4294967296:X)=2^db b*(2^f*2):=by
  have:(4294967296:X)=2^32:=rfl;rw[this]
  conv=>lhs;rw[n]
  rw[k3,u1]
 rw[l]
 conv=>lhs;lhs;rw[m]
 grind
def Ue {z:Z} (o:Fit z) (r:z≠0):AC (aY z,())=Y ((db z.natAbs:Z),()):=by
 unfold AC;dsimp only;have i:=m3 z;have u:=iQ z;have s:(aY z).2.1.length<=31250:=o;generalize(aY z).2.1=b at*;have m:z.natAbs=(ak b).toNat:=aa;rw[m];refine bQ.1 (ah.aJ (P:=λh=>match h with|.inl _=>b7|.inr p=>p=((db (ak b).toNat:Z),())) ?_ ?_)
 ·refine ah.steps b.length (λa q=>q=((a:Z),())/\ak (b.take a)=0) ⟨bq,bq⟩ ?_ ?_
  ·rintro a _ f ⟨rfl,e⟩;have j:=i.get f;simp only[aI (show(a:Z)<ar b by simp only[a7];omega),bI,eP f,aF,fJ];by_cases c:b[a]=0
   ·simp only[aI c,g7,bR];refine bu.2 ⟨by rw[a9 aa],?_⟩;rw[iU f,c,e];simp
   simp only[aD c,mP,bI];have k:=Ud (x:=0) e f i c;rw[k];obtain⟨d,l⟩:=gB j.1;rw[l] at j c|-;have t:db d<32:=jG (w1 aa) (fZ.2 aa);refine ah.of_eq (aj (Uc (n:=d) aa aa) rfl) ?_;show(az (az ((a:Z)*32)+(db d:Z)),())=_;rw[cF (x:=(a:Z)*32) aa aa,cF aa aa];congr 1;show _=((32*a+db d:X):Z);omega
  rintro _ ⟨rfl,e⟩;exfalso;rw[fD (bg _)] at e;omega
 rintro(h|h) g
 ·exact g.elim
 have g:h=_:=g;rw[g];exact bu.2 bq
theorem za (a:X):((2^a:X):Z)=(2:Z)^a:=by simp
theorem kp (a:X):(0:Z)<2^a:=mT ab
theorem wI (b:a<=31):(2:Z)^a<=2147483648:=by have c:=u0 (ab:0<2) b;grind
def wH {p:X} (a:p<=32):(4294967296:Z)=2^p*2^(32-p):=by rw[<-l3,(aa:p+(32-p)=32)];rfl
theorem re (a:X):a2 a=2^(32*a):=by unfold a2;rw[Int.pow_mul];rfl
def adN {k:X} {x y:Z} (j:k<=32) (e:0<=x) (f:x<2^k) (g:0<=y) (o:y<4294967296) (i:y %2^k=0):gM .u32 x y=x+y/\x+y<4294967296:=by
 have c:=kp k;have u:=wH j;have t:=kp (32-k);have s:y=2^k*(y/2^k):=(by have:=ml y (2^k);omega);have r:y/2^k<2^(32-k):=by
  rcases jB (y/2^k) (2^(32-k)) with b|b
  ·exact b
  have:=j2 b (fu c);omega
 have q:2^k*(y/2^k+1)<=2^k*2^(32-k):=j2 aa (fu c);have p:(2:Z)^k*(y/2^k+1)=2^k*(y/2^k)+2^k:=ae;have n:x+y<4294967296:=aa;refine⟨?_,n⟩;obtain⟨d,rfl⟩:=gB e;obtain⟨a,rfl⟩:=gB g;have m:d<2^k:=(by have:((d:X):Z)<((2^k:X):Z):=(by simpa using f);omega);have l:a %2^k=0:=(by have:((a %2^k:X):Z)=0:=(by simpa using i);omega);rw[adL aa aa];have h:a=(a/2^k)*2^k:=(by have:=uY a (2^k);rw[l,qk] at this;omega);rw[h,Nt k m];simp
theorem Mq {n:X} (F:aX d) (am:d.length<=10000000) (V:n<=100000000):x6 (d,(n:Z),())=Y (e2 (ak d*2^n).toNat,()):=by
 unfold x6;simp only[tX,cW];split
 ·rename_i h;subst h;simp[ak];rfl
 refine bQ.1 ?_;obtain⟨a,e,K,ad,I,J⟩:∃a e:X,n=32*a+e/\e<32/\kT bO (n:Z) 32=some (a:Z)/\jq (n:Z) 32=some (e:Z):=by
  refine⟨n/32,n %32,aa,aa,?_,?_⟩
  ·unfold kT;rw[aB ab,Hw aa,cx aa aa];simp
  unfold jq;rw[aB ab,Hx aa];simp
 have l:=kp e;have E:=wH (p:=e) aa;have w:aO (az ((a:Z)+ar d))=((a+d.length+1:X):Z):=(by simp only[a7];rw[cF aa aa,(ac:(a:Z)+(d.length:Z)=((a+d.length:X):Z)),a9 aa]);rw[I,J,aF,aF,w,hP aa,aF];refine ah.aJ (P:=λq=>∃c,q=(c,())/\c.length=a+d.length+1/\aX c/\ak c=a2 a*(2^e*ak d)) ?_ ?_
 ·refine ah.steps d.length (λb M=>∃c,M=((b:Z),c,())/\c.length=a+d.length+1/\aX c/\ji c (a+b+1)/\(∀h:a+b<c.length,c[a+b]<2^e)/\ak c=a2 a*(2^e*ak (d.take b))) ⟨_,bq,ac,alR _,ji.mg _ _,λh=>by simp;exact l,by simp[ak,p0]⟩ ?_ ?_
  ·rintro b _ m ⟨c,rfl,aE,g,i,t,o⟩;have s:=F.get m;have G:=g.get (n:=a+b) aa;have H:=t aa;dsimp only;rw[b9 (show(b:Z)<ar d by simp only[a7];omega),eP m,bM];have ax:az ((a:Z)+(b:Z))=((a+b:X):Z):=(by rw[cF aa aa];simp);have U:d[b]*2^e<4294967296*2^e:=anY s.2 l;have T:(2:Z)^e<=2147483648:=wI aa;obtain⟨f,r,N,O⟩:∃f,f=d[b]*2^e/\0<=f/\f<18446744073709551616:=⟨_,bq,am9 s.1 (aln l),aa⟩;have z:iz bG (aR d[b]) (aR (e:Z))=Y f:=by
    rw[fM (x:=d[b]) aa aa,fM (x:=(e:Z)) aa aa,ou aa aa,gg,<-r];congr 1;omega
   have A:f %4294967296 %2^e=0:=(by rw[ap1 _ ⟨_,E⟩,r,anZ]);have B:f/4294967296<2^e:=(by refine sE ab ?_;rw[lu];omega);obtain⟨C,R⟩:=adN (k:=e) (x:=c[a+b]) (y:=f %4294967296) aa G.1 H aa aa A;rw[z];simp only[aF];rw[ax,jM aa,se N O,C,lX aa,nM,aF,a9 aa,lV aa aa,lX (by simp;omega)];refine bu.2 ⟨(c.set (a+b) (c[a+b]+f %4294967296)).set (a+b+1) (f/4294967296),by rw[a9 aa],by simp[aE],(g.set aa aa).set aa aa,?_,?_,?_⟩
   ·have:=(i.LX (c[a+b]+f %4294967296) (j:=a+b) aa).set (f/4294967296);exact this
   ·intro h;show((c.set (a+b) (c[a+b]+f %4294967296)).set (a+b+1) (f/4294967296))[a+b+1]'h<2^e
    rw[ap2];exact B
   have Q:(c.set (a+b) (c[a+b]+f %4294967296))[a+b+1]'(by simp;omega)=0:=by rw[zR aa];exact i _ aa aa
   rw[nl (by simp;omega),Q,nl aa,o,iU m,iq,uH];have S:=ml f 4294967296;generalize f/4294967296=L at*;generalize f %4294967296=q at*;generalize(2:Z)^e=u at*;generalize d[b]=v at*;generalize c[a+b]=an at*;have D:q=v*u-4294967296*L:=aa;subst D;grind
  rintro _ ⟨c,rfl,aE,g,i,t,o⟩;dsimp only;rw[ck (show¬((d.length:Z)<ar d) by simp only[a7];omega)];refine bu.2 ⟨c,bq,aE,g,?_⟩;rw[o,cj (cc _)]
 rintro _ ⟨c,rfl,aE,g,i⟩;refine ah.of_eq (aj (pf g (by show c.length<=_;omega)) rfl) ?_;show(iT c,())=_;rw[iT,i,re,K,l3];congr 3;grind
def W2 (k:aX d) (o:d.length<=10000000):AN (d,(),())=Y (bz (ak d≠0),()):=by
 unfold AN;refine bQ.1 ?_;refine ah.aJ (P:=λi=>∃g,i=(g,())/\(0<=g↔ak d≠0)) ?_ ?_
 ·unfold IR;dsimp only;refine ah.aJ (P:=λc=>match c with|.inl _=>ak d=0|.inr i=>0<=i.1/\ak d≠0) ?_ ?_
  ·refine ah.steps d.length (λa m=>m=((a:Z),())/\ak (d.take a)=0) ⟨bq,bq⟩ ?_ ?_
   ·rintro a _ e ⟨rfl,b⟩;have l:=k.get e;simp only[aI (show(a:Z)<ar d by simp only[a7];omega),bI,eP e,aF,ID,fJ];by_cases h:d[a]=0
    ·simp only[aI h,g7,bR];refine bu.2 ⟨by rw[a9 aa],?_⟩;rw[iU e,h,b];simp
    simp only[aD h,mP,bI];refine bu.2 ⟨by show(0:Z)<=(a:Z);omega,?_⟩;rw[ph d a aa,b,nk e];have j:=ff (k.drop (a+1));have n:0<a2 a*(d[a]+4294967296*ak (d.drop (a+1))):=p7 (gm a) aa;omega
   rintro _ ⟨rfl,b⟩;simp only[aD (show¬((d.length:Z)<ar d) by simp only[a7];omega),bR];refine bu.2 ?_;rw[fD (bg _)] at b;exact b
  rintro(c|c) f
  ·have f:ak d=0:=f;exact bu.2 ⟨_,bq,by rw[f];simp⟩
  obtain⟨b,j⟩:0<=c.1/\ak d≠0:=f;exact bu.2 ⟨c.1,bq,λ_=>j,λ_=>b⟩
 rintro _ ⟨g,rfl,l⟩;refine bu.2 ?_;show(bz (g>=0),())=_;congr 1;rw[cy];exact l
def Ns (a:X) (c:0<=b) (g:b<4294967296) (e:a<=32):e3 .u32 b (2^a-1)=b %2^a:=by obtain⟨i,rfl⟩:=gB c;have f:0<2^a:=j4 a;have d:(2:Z)^a-1=((2^a-1:X):Z):=(by rw[Int.natCast_sub f];simp);have h:2^a<=2^32:=u0 ab e;rw[d,Nq aa aa,aoR];simp
def Ql {x b y:Z} {P P':Z} (e:0<b) (f:0<=x/\x<b) (h:0<P):(x+b*y) %(b*P)=0↔x=0/\y %P=0:=by
 constructor
 ·intro a;have g:x=0:=by
   have c:(x+b*y) %b=0:=(by have:=ap1 (x+b*y) (show b∣b*P from⟨P,bq⟩);rw[a] at this;simpa using this.symm);rw[zL,sF f.1 f.2] at c;exact c
  subst g;rw[amv,ap3 _ _ e] at a;exact⟨bq,by rcases anb.1 a with d|d;omega;exact d⟩
 rintro⟨rfl,a⟩;rw[amv,ap3 _ _ e,a,anc]
theorem OE {n:X} (i:aX d) (bx:fd d) (dg:d.length<=10000000) (cv:n<=1000000000):AE (d,(n:Z),())=Y (e2 (ak d/2^n).toNat,bz (ak d %2^n≠0),()):=by
 unfold AE;dsimp only;refine bQ.1 ?_;obtain⟨a,e,a4,c1,av,a3⟩:∃a e:X,n=32*a+e/\e<32/\kT bO (n:Z) 32=some (a:Z)/\jq (n:Z) 32=some (e:Z):=by
  refine⟨n/32,n %32,aa,aa,?_,?_⟩
  ·unfold kT;rw[aB ab,Hw aa,cx aa aa];simp
  unfold jq;rw[aB ab,Hx aa];simp
 have B:=kp e;have G:=wH (p:=e) aa;have ad:(2:Z)^n=a2 a*2^e:=(by rw[re,a4,l3]);have K:=ff i;rw[av,a3,aF,aF,cW,ad];refine ah.ite (λk=>?_) λk=>?_
 ·have k:d.length<=a:=(by simp only[a7] at k;omega);have m:=ho i;have r:=pV k;have F:a2 a*1<=a2 a*2^e:=j2 aa (fu (gm a));rw[p5 K aa,sF K aa];refine bu.2 ?_;show(([]:ak7),bz (ar d>0),())=(e2 0,_,());rw[Jk];congr 2;rw[cy];simp only[a7];constructor
  ·intro o C;have:=anV i bx C;rw[this] at o;simp at o
  intro o;have:d≠[]:=λO=>(by rw[O] at o;exact o bq);have:=zS.2 this;omega
 have k:a<d.length:=(by simp only[a7] at k;omega);have w:=i.get k;obtain⟨f,u⟩:∃f,f=ak (d.drop a):=⟨_,bq⟩;have H:0<=f:=(by rw[u];exact ff (i.drop a));have J:ak d=ak (d.take a)+a2 a*f:=(by rw[u];exact ph d a aa);have I:=ff (i.take a);have E:=ho (i.take a);rw[gu,h5 aa] at E;have an:ak d/(a2 a*2^e)=f/2^e:=(by rw[<-uM (fu (gm a)),J,xg _ _ (by have:=gm a;omega),p5 I E,amv]);refine ah.aJ (P:=λq=>q=(bz (ak d %(a2 a*2^e)≠0),())) ?_ ?_
 ·rw[G6 aa,aF];have ax:aoW 0 (List.take a d)=d.take a:=mm;show ah ((AN (aoW 0 (List.take a d),(),())).bind _) _;rw[ax,W2 (i.take a) (by simp;omega),aF];have D:(bz (ak d %(a2 a*2^e)≠0))=(bz (ak (d.take a)≠0)||bz (d[a] %2^e≠0)):=by
   have m:=Ql (x:=ak (d.take a)) (b:=a2 a) (y:=f) (P:=2^e) (P':=0) (gm a) ⟨I,E⟩ B;rw[<-J] at m;have r:f %2^e=d[a] %2^e:=(by rw[u,nk k,G,kK,zL]);rw[r] at m;by_cases A:ak (d.take a)=0<;>by_cases T:d[a] %2^e=0<;>simp[A,T,m]
  rw[D];dsimp only;by_cases A:ak (d.take a)=0
  ·simp only[aD (show¬(ak (d.take a)≠0) fromλk=>k A),alC,bI,eP k,aF];rw[fM (x:=(e:Z)) aa aa,Tv aa aa,aF,gg,ane];have ce:(2:Z)^e<=2147483648:=wI aa;rw[sF aa aa,lV aa aa,Ns e w.1 w.2 aa,fJ];refine bu.2 ?_;simp
  simp only[aI (show ak (d.take a)≠0 from A)];exact bu.2 bq
 rintro _ rfl;dsimp only;obtain⟨l,cs⟩:∃l,d.length=a+l:=⟨d.length-a,aa⟩;have Q:az (ar d-(a:Z))=((l:X):Z):=(by simp only[a7];rw[cF aa aa];omega);rw[Q,hP aa,bM];have ci:f<a2 l:=(by have:=ho (i.drop a);rw[aoF,(aa:d.length-a=l),<-u] at this;exact this);refine ah.aJ (P:=λq=>∃g,q=(g,())/\g.length=l/\aX g/\ak g=f/2^e) ?_ ?_
 ·refine ah.steps l (λc bs=>∃g,bs=((c:Z),g,())/\g.length=l/\aX g/\ak (g.take c)+a2 c*(f/2^e/a2 c)=f/2^e) ⟨_,bq,ac,alR _,by simp[ak,zE]⟩ ?_ ?_
  ·rintro c _ co ⟨g,rfl,aE,z,s⟩;have w:=i.get (n:=a+c) aa;have bl:=i.getD (a+c+1);have D:bz ((c:Z)<ar (bJ l (0:Z)))=bt:=aI (by simp only[a7,rp];omega);have ax:az ((a:Z)+(c:Z))=((a+c:X):Z):=(by rw[cF aa aa];simp);have R:aO ((a+c:X):Z)=((a+c+1:X):Z):=a9 aa;simp only[D,bI,ax,R,eP (aa:a+c<d.length),aF];obtain⟨j,v,L,ds⟩:∃j,j=d[a+c]+4294967296*d.getD (a+c+1) 0/\0<=j/\j<18446744073709551616:=⟨_,bq,aa,aa⟩;have am:f/a2 c=j+4294967296*(4294967296*ak (d.drop (a+c+2))):=by
    have m:d.drop a=(d.drop a).take c++d.drop (a+c):=by
     conv=>lhs;rw[<-jF c (d.drop a)]
     rw[ri]
    have r:f=ak ((d.drop a).take c)+a2 c*ak (d.drop (a+c)):=by
     rw[u]
     conv=>lhs;rw[m]
     rw[mM,gu,nS,h5 aa]
    have F:=ff ((i.drop a).take c);have o:=ho ((i.drop a).take c);rw[gu,nS,h5 aa] at o;have C:ak (d.drop (a+c))=d[a+c]+4294967296*ak (d.drop (a+c+1)):=nk aa;have U:ak (d.drop (a+c+1))=d.getD (a+c+1) 0+4294967296*ak (d.drop (a+c+2)):=by
     rcases cY (a+c+1) d.length with h|h
     ·rw[jL h];exact nk h
     rw[pN h,oC h,oC aa];rfl
    rw[r,xg _ _ (by have:=gm c;omega),p5 F o,C,U,v];grind
   have ap:f/2^e/a2 c %4294967296=j/2^e %4294967296:=(by have m:f/2^e/a2 c=f/a2 c/2^e:=(by rw[uM (fu B),uM (fu (gm c)),lu]);rw[m,am];have r:∀t:Z,j+4294967296*(4294967296*t)=j+2^e*(4294967296*(2^(32-e)*t)):=λt=>(by generalize(2:Z)^e=M at*;generalize(2:Z)^(32-e)=N at*;rw[show(4294967296:Z)*(4294967296*t)=(M*N)*(4294967296*t) by rw[<-G]];grind);rw[r,xg _ _ aa,zL]);have a0:0<=j/2^e:=mR L (fu B);have c2:j/2^e<=j:=uN _ L;refine ah.aJ (P:=λq=>q=(g.set c (j/2^e %4294967296),())) ?_ ?_
   ·refine ah.aJ (P:=λq=>q=(j,g,())) ?_ ?_
    ·simp only[cW];refine ah.ite (λh=>?_) λh=>?_
     ·have h:a+c+1<d.length:=(by simp only[a7] at h;omega);rw[eP h,aF,fM (x:=d[a+c+1]) (by have:=i.get h;omega) (by have:=i.get h;omega),ou ab ab];rw[jL h] at v bl;have S:d[a+c+1]*2^(32:Z).toNat %18446744073709551616=4294967296*d[a+c+1]:=by
       rw[show(2:Z)^(32:Z).toNat=4294967296 from rfl];omega
      rw[aF,S,fM aa aa,nK 32 w.1 w.2 aa aa aa aa];refine bu.2 ?_;rw[<-v]
     have h:d.length<=a+c+1:=(by simp only[a7] at h;omega);rw[pN h] at v;rw[fM aa aa];refine bu.2 ?_;rw[v];simp
    rintro _ rfl;dsimp only;rw[fM (x:=(e:Z)) aa aa,ux aa aa,bM,alO,se a0 aa,lX aa];exact bu.2 bq
   rintro _ rfl;dsimp only;refine bu.2 ⟨g.set c (j/2^e %4294967296),by rw[a9 aa],by simp[aE],z.set aa aa,?_⟩;rw[iU (by simp;omega)];simp only[ap2];rw[List.take_set_of_le aa,<-ap,iq,ame 4294967296 (a2 c),<-ap4 (aln (gm c))];have V:=amu (f/2^e/a2 c) 4294967296;generalize f/2^e/a2 c %4294967296=q at*;generalize f/2^e/a2 c/4294967296=dl at*;rw[<-V] at s;grind
  rintro _ ⟨g,rfl,aE,z,s⟩;simp only[aD (show¬((l:Z)<ar (bJ l (0:Z))) by simp only[a7,rp];omega),bR];refine bu.2 ⟨g,bq,aE,z,?_⟩;have m:0<=f/2^e:=mR H (fu B);have r:f/2^e<=f:=uN _ H;rw[p5 m aa,fD aa] at s;simpa using s
 rintro _ ⟨g,rfl,aE,z,s⟩;refine ah.of_eq (aj (pf z (by show g.length<=_;omega)) rfl) ?_;show(iT g,_,())=_;rw[iT,s,an]
section
theorem B5 (a:cD) (b c:Z):gM a b c=gM a c b:=by grind [BitVec.or_comm,gM]
theorem Hg {x y:Z} (b:0<=x/\x<4294967296) (a:0<=y/\y<4294967296):iz .u64 x 32=Y (4294967296*x)/\gM .u64 (4294967296*x) (aR y)=4294967296*x+y:=by
 constructor
 ·grind [ou]
 rw[fM a.1 aa,B5,nK 32 a.1 a.2 aa aa aa aa,anW]
theorem GP {x y:Z} (a:0<=x/\x<18446744073709551616) (c:0<y):kT .u64 x y=Y (x/y)/\jq x y=Y (x %y):=by
 constructor
 ·unfold kT;rw[aB aa,Hw a.1];have b:x/y<=x:=uN _ a.1;grind [CQ,al4]
 unfold jq;grind
theorem afR (l:aX d) (J:d.length<=10000000) (g:0<b) (F:b<4294967296):D3 (d,b,())=Y (e2 (ak d/b).toNat,ak d %b,()):=by
 unfold D3;refine bQ.1 ?_;simp only[a7,hP (aa:d.length<=4294967296),aF];refine ah.aJ (P:=λt=>∃c,t=(ak d %b,c,())/\c.length=d.length/\aX c/\ak c=ak d/b) ?_ ?_
 ·refine ah.steps d.length (λf u=>∃c,u=(ak (d.drop (d.length-f)) %b,((d.length:X):Z)-1-f,c,())/\c.length=d.length/\aX c/\(∀a,a<d.length-f->(q:a<c.length)->c[a]=0)/\ak c=a2 (d.length-f)*(ak (d.drop (d.length-f))/b)) ⟨bJ d.length 0,?_,ac,alR _,ac,?_⟩ ?_ ?_
  ·rw[cF aa aa,oC aa];simp[ak]
  ·simp_all [p0,oC,ak]
  ·rintro f _ G ⟨c,rfl,aE,h,i,j⟩;obtain⟨a,q⟩:∃a,d.length=a+1+f:=⟨d.length-1-f,aa⟩;have ax:((d.length:X):Z)-1-(f:Z)=(a:Z):=aa;have p:a<d.length:=aa;rw[(aa:d.length-f=a+1)] at*;have s:=l.get p;obtain⟨e,k⟩:∃e,e=ak (d.drop (a+1)):=⟨_,bq⟩;have D:0<=e:=(by rw[k];exact ff (l.drop _));rw[<-k] at j|-;have r:0<=e %b:=oy _ aa;have H:e %b<b:=p6 _ g;obtain⟨v,w⟩:=Hg (x:=e %b) (y:=d[a]) ⟨r,aa⟩ s;obtain⟨z,A⟩:=GP (x:=4294967296*(e %b)+d[a]) (y:=b) ⟨aa,aa⟩ g;have n:(4294967296*(e %b)+d[a])/b<4294967296:=by
    refine sE g ?_;omega
   have o:0<=(4294967296*(e %b)+d[a])/b:=mR aa aa;simp only[ax,aI (aa:(a:Z)>=0),bI,eP p,v,aF];rw[w,fM (x:=b) aa aa,z,aF,lV o n,lX aa,A,aF];have E:=ml e b;have I:ak (d.drop a)=d[a]+4294967296*e:=(by grind [nk]);have m:ak (d.drop a)=(4294967296*(e %b)+d[a])+b*(4294967296*(e/b)):=ae;refine bu.2 ⟨c.set a ((4294967296*(e %b)+d[a])/b),?_,ae,h.set o n,?_,?_⟩
   ·rw[(aa:d.length-(f+1)=a),cF aa aa,m,zL];grind
   ·grind
   rw[(aa:d.length-(f+1)=a),m,xg _ _ aa,nl aa,i a aa aa,j,iq];grind
  rintro _ ⟨c,rfl,aE,h,i,j⟩;have ax:¬(((d.length:X):Z)-1-(d.length:Z)>=0):=aa;simp_all [zE,bu,pt,aD,bR]
 rintro _ ⟨c,rfl,aE,h,i⟩;have C:ak d %b<b:=p6 _ g;have B:0<=ak d %b:=oy _ aa;refine ah.of_eq (aj (pf h ae) rfl) ?_;show(iT c,eD (ak d %b),())=_;grind [lV,iT]
section
variable {α B:Type}
theorem rG {c b e:bp α} (f:a<b.length) (d:α->bA B):ba (c++(b++e)) (c.length+a) d=d b[a]:=by simp_all [qe,sN,rm,bh,gh]
def Cz {b c d:bp α} (f:a<c.length) (e:α):(b++(c++d)).set (b.length+a) e=b++(c.set a e++d):=by rw[an0 _ _ aa,sN,List.set_append_left _ _ f]
end
theorem XI {v1 fL d f a c g:Z} (r:0<e) (q:d=(v1*4294967296+fL)*e+v) (o:f=(a*4294967296+c)*e+g) (j:0<=v) (p:g<e) (h:0<=b) (k:(a-b*v1)*4294967296+c<b*fL):f<b*d:=by have i:a*4294967296+c+1<=b*(v1*4294967296+fL):=ae;have l:(a*4294967296+c+1)*e<=b*(v1*4294967296+fL)*e:=nR i aa;have m:0<=b*v:=mS h j;have n:b*d=b*(v1*4294967296+fL)*e+b*v:=ae;grind
def XJ {v1 fL a f c d g:Z} (t:0<e) (r:a=(v1*4294967296+fL)*e+v) (p:f=(c*4294967296+d)*e+g) (s:0<=v/\v<e) (q:0<=g) (h:0<=b/\b<4294967296) (u:1<=v1) (w:0<=fL) (j:b*fL<=(c-b*v1)*4294967296+d):b*a<f+a:=by have i:b*(v1*4294967296+fL)<=c*4294967296+d:=ae;have k:b*(v1*4294967296+fL)*e<=(c*4294967296+d)*e:=nR i aa;have l:b*v<=b*e:=j2 aa h.1;have m:b*a=b*(v1*4294967296+fL)*e+b*v:=ae;have n:b*e<=4294967295*e:=nR aa aa;have o:4294967296*e<=(v1*4294967296+fL)*e:=nR aa aa;omega
end
theorem Hm (b:d.length=a+2):ak d=(d[a+1]*4294967296+d[a])*a2 a+ak (d.take a):=by grind [iU,iq,cj]
theorem agY (b:d.length=a+3):ak d=((d[a+2]*4294967296+d[a+1])*4294967296+d[a])*a2 a+ak (d.take a):=by grind [iq,iU,cj]
structure zG (v w:ak7) (n:X):Prop where
 hv:aX v
 hw:aX w
 Hp:v.length=n+2
 wn:w.length=n+3
 QU:n<=10000000
 top:2147483648<=v[n+1]
 lt:ak w<4294967296*ak v
theorem zG.Up {n:X} (a:zG d f n):0<ak d:=by
 have b:=Hm a.Hp;have c:=ff (a.hv.take n);have e:=a.hv.get (n:=n) ae;have g:=a.top;have h:0<(d[n+1]'(by grind)*4294967296+d[n]'(by grind))*a2 n:=p7 aa (gm n)
 omega
theorem XK {j:ak7} {n:X} (h:zG f d n) (r:b=(4294967296*d[n+2]'(by have:=h.wn;omega)+d[n+1]'(by have:=h.wn;omega))/f[n+1]'(by have:=h.Hp;omega)) (ci:e=(4294967296*d[n+2]'(by grind)+d[n+1]'(by grind)) %f[n+1]'(by grind)):ah (loop (σ:=(ew×Z×Z×bj×bw)) (ρ:=(ew×Z×bj×bw)) (λ(l,o,B,t,_)=>
 bE (α:=(ew×bj×bw)⊕((ew×Z×Z×bj×bw)⊕(ew×Z×bj×bw))) (bif bz (o>4294967295)==br then(aq f (az (ar f-2))).bind λd1=>
 (iz bG B 32).bind λd2=>
 (bm (l.2-l.1) (az (ar f-2))).bind λdg=>
 (ba t (l.1+dg) λam=>Y am).bind λd3=>
  bif bz (aR (o*aR d1)>gM bG d2 (aR d3)) then
 Y (.inl (l,t,())) else
 Y (.inr (.inr (l,o,t,()))) else Y (.inl (l,t,()))) λa=>match a with
 |.inl (O,P,_)=>(
 (aq f (az (ar f-1))).bind λp=>
  bif bz (aR (B+aR p)>4294967295) then
 Y (.inr (O,aR (o-1),P,())) else
 Y (.inl (O,aR (o-1),aR (B+aR p),P,())))
 |.inr i=>Y i) ((g.length,g.length+d.length),b,e,g++(d++j),())) (λi=>∃a,i=((g.length,g.length+d.length),a,g++(d++j),())/\0<=a/\a<4294967296/\ak d/ak f<=a/\a*ak f<ak d+ak f):=by
 have c1:=h.Hp;have c2:=h.wn;have fn:=h.QU;have bl:=h.Up;have f5:=h.hv.get (n:=n+1) aa;have s:=h.hv.get (n:=n) aa;have fz:=h.hw.get (n:=n+2) aa;have fT:=h.hw.get (n:=n+1) aa;have cv:=h.hw.get (n:=n) aa;have ft:=h.top;have K:=Hm c1;have w:=agY c2;have E:=ff (h.hv.take n);have F:=ho (h.hv.take n);have R:=ff (h.hw.take n);have G:=ho (h.hw.take n);rw[gu,h5 aa] at F G;have bx:=h.lt;have z:=gm n;have ax:az (ar f-1)=((n+1:X):Z):=(by grind [cF,a7]);have ad:az (ar f-2)=((n:X):Z):=(by grind [cF,a7]);have ap:aq f ((n+1:X):Z)=Y f[n+1]:=eP aa;have av:aq f ((n:X):Z)=Y f[n]:=eP aa;have a0:∀q:Z->ak1,ba (g++(d++j)) (g.length+n) q=q d[n]:=λq=>rG aa q;generalize f0:f[n+1]=v1 at*;generalize f1:f[n]=fL at*;generalize f2:d[n+2]=D at*;generalize f3:d[n+1]=d0 at*;generalize f4:d[n]=k at*;obtain⟨c,co⟩:∃c,c=4294967296*D+d0:=⟨_,bq⟩;rw[<-co] at r ci;have w:ak d=(c*4294967296+k)*a2 n+ak (d.take n):=ae;have eq:D<=v1:=by
  rcases jB v1 D with m|m
  ·exfalso;have S:(v1*4294967296+fL+1)*a2 n<=(v1*4294967296+4294967296)*a2 n:=nR aa aa;have H:((v1+1)*4294967296*4294967296)*a2 n<=(c*4294967296+k)*a2 n:=nR aa aa;grind
  omega
 have ek:0<=ak d/ak f:=mR (ff h.hw) aa;have el:ak d/ak f<4294967296:=sE bl bx;have cs:0<=c:=aa;have em:=ml c v1;have fr:0<=c %v1:=oy _ aa;have fs:c %v1<v1:=p6 _ aa;have fp:0<=c/v1:=mR cs aa;have T:∀a,0<=a->(c-a*v1)*4294967296+k<a*fL->ak d/ak f<a:=λa r h=>(by have:=XI z K w E G r h;simp_all [sE]);have an:∀a,0<=a->a<4294967296->a*fL<=(c-a*v1)*4294967296+k->a*ak f<ak d+ak f:=λa a3 a4 h=>XJ z K w ⟨E,F⟩ R ⟨a3,a4⟩ aa s.1 h;refine als (λC=>∃a i,C=((g.length,g.length+d.length),a,i,g++(d++j),())/\0<=a/\a<=4294967297/\0<=i/\i<4294967296/\i=c-a*v1/\ak d/ak f<=a) (λC=>C.2.1.toNat) ⟨b,e,bq,aa,?_,aa,aa,?_,?_⟩ ?_
 ·rw[r];have:c<4294967298*v1:=aa;have:=sE aa this;omega
 ·grind
 ·rcases jB (c/v1) (ak d/ak f) with m|m
  ·exfalso;have S:(c/v1+1)*ak f<=ak d:=by
    have v:(c/v1+1)*ak f<=ak d/ak f*ak f:=nR aa aa;have U:=ml (ak d) (ak f);have I:=oy (ak d) (aa:ak f≠0);grind
   have H:(c+1)*4294967296<=(c/v1+1)*(v1*4294967296):=ae;have d4:(c+1)*4294967296*a2 n<=(c/v1+1)*(v1*4294967296)*a2 n:=nR H aa;have d5:0<=(c/v1+1)*(fL*a2 n+ak (f.take n)):=mS aa (by have:=mS s.1 (fu z);omega);have d6:(c/v1+1)*ak f=(c/v1+1)*(v1*4294967296)*a2 n+(c/v1+1)*(fL*a2 n+ak (f.take n)):=ae;have d7:(k+1)*a2 n<=4294967296*a2 n:=nR aa aa;grind
  omega
 rintro _ ⟨a,i,rfl,v,U,I,V,d8,d9⟩;have ce:∀a,(a-1)*v1=a*v1-v1:=λa=>ae;have J:ak d/ak f<a->ah ((aq f (az (ar f-1))).bind λp=>
  bif bz (aR (i+aR p)>4294967295) then
 Y (.inr ((g.length,g.length+d.length),aR (a-1),g++(d++j),())) else
 Y (
  .inl ((g.length,g.length+d.length),aR (a-1),aR (i+aR p),g++(d++j),()))) (λ(Q:(ew×Z×Z×bj×bw)⊕(ew×Z×bj×bw))=>match Q with
  |.inl N=>(∃a i,N=((g.length,g.length+d.length),a,i,g++(d++j),())/\0<=a/\a<=4294967297/\0<=i/\i<4294967296/\i=c-a*v1/\ak d/ak f<=a)/\N.2.1.toNat<a.toNat
  |.inr i=>∃a,i=((g.length,g.length+d.length),a,g++(d++j),())/\0<=a/\a<4294967296/\ak d/ak f<=a/\a*ak f<ak d+ak f):=by
  intro ex;rw[ax,ap,aF,fM (x:=v1) aa aa,fM (x:=i+v1) aa aa,fM (x:=a-1) aa aa,cW];refine ah.ite (λm=>?_) λm=>?_
  ·refine bu.2 ⟨a-1,bq,aa,?_,aa,?_⟩
   ·grind
   have bs:a-1<4294967296:=ae;refine an (a-1) aa bs ?_;rw[ce];have f6:(a-1)*fL<=4294967295*fL:=nR aa s.1;omega
  refine bu.2 ⟨⟨a-1,i+v1,bq,aa,aa,aa,aa,?_,aa⟩,?_⟩
  ·grind
  show(a-1).toNat<a.toNat;omega
 by_cases L:a>4294967295
 ·simp only[aI L,show(bt==br)=br from rfl,bR,aF];refine(J aa).mono ?_;rintro(u|u) A
  ·exact A
  omega
 simp only[aD L,alC,bI,ad,av,aF];obtain⟨dl,ds⟩:=Hg (x:=i) (y:=k) ⟨I,V⟩ cv;have fl:=BS (x:=a) (y:=fL) ⟨v,aa⟩ s;rw[dl,aF];simp only[sN,eV (aa:n<d.length),aF,a0,ds];rw[fM (x:=fL) aa aa,fM (x:=a*fL) aa aa];by_cases M:a*fL>4294967296*i+k
 ·simp only[aI M,bI,aF];refine(J (T a v aa)).mono ?_;rintro(u|u) A
  ·exact A
  omega
 simp only[aD M,bR,aF];grind [bu]
theorem agj {r:ak7} (L:aX d) (M:aX f) (a4:d.length<f.length) (ap:f.length<=100000000) (K:0<=b/\b<4294967296) (av:∀h e a,a.length=f.length->aX a->(∀(D:d.length<a.length) (m:d.length<f.length),a[d.length]=f[d.length])->0<=h->h<4294967296->0<=e->e<=1->ak a-a2 d.length*(h+e)=ak f-b*ak d->w ((g.length,g.length+f.length),h,e,g++(a++r),())):ah (loop (σ:=(ew×Z×Z×Z×bj×bw)) (ρ:=(ew×Z×Z×bj×bw)) (λ(j,p,s,o,q,_)=>
 bif bz (o<ar d) then
 (aq d o).bind λu=>
 (eT bG (aR (aR (b*aR u)+p)) 32).bind λU=>
 (bm (j.2-j.1) o).bind λP=>
 (ba q (j.1+P) λC=>Y C).bind λA=>
 (bm (j.2-j.1) o).bind λz=>
 (ba q (j.1+z) λ_=>Y (q.set (j.1+z) (eD (e3 bG (aR (aR (aR A-e3 bG (aR (aR (b*aR u)+p)) 4294967295)-s)) 4294967295)))).bind λad=>
 (eT bG (aR (aR (aR A-e3 bG (aR (aR (b*aR u)+p)) 4294967295)-s)) 32).bind λV=>
 Y (.inl (j,U,e3 bG V 1,aO o,ad,())) else
 Y (.inr (j,p,s,q,()))) ((g.length,g.length+f.length),0,0,0,g++(f++r),())) w:=by
 refine ah.steps d.length (λc T=>∃h e a,T=((g.length,g.length+f.length),h,e,(c:Z),g++(a++r),())/\a.length=f.length/\aX a/\(∀l,c<=l->(D:l<a.length)->(m:l<f.length)->a[l]=f[l])/\0<=h/\h<4294967296/\0<=e/\e<=1/\ak a-a2 c*(h+e)=ak f-b*ak (d.take c)) ⟨0,0,f,bq,bq,M,λ_ _ _ _=>rfl,aa,aa,aa,aa,by simp[ak]⟩ ?_ ?_
 ·rintro c _ t ⟨h,e,a,rfl,v,m,y,E,F,G,H,I⟩;have N:=L.get t;have bl:=m.get (n:=c) aa;have a3:=BS K N;obtain⟨k,J,Q,R⟩:∃k,k=b*d[c]+h/\0<=k/\k<18446744073709551616:=⟨_,bq,aa,aa⟩;simp only[aI (ae:(c:Z)<ar d),bI,eP t,aF];have ax:aR (aR (b*aR d[c])+h)=k:=by
   rw[fM (x:=d[c]) aa aa,fM (x:=b*d[c]) aa aa,<-J,fM Q R]
  rw[ax];obtain⟨i,a0,am,an⟩:∃i,i=a[c]-k %4294967296-e/\-4294967296<=i/\i<4294967296:=⟨_,bq,aa,aa⟩;have B:aR (aR (aR a[c]-e3 bG k 4294967295)-e)=i %18446744073709551616:=(by simp_all [and_low32,sy]);have aE:i %18446744073709551616/4294967296 %2^1=-(i/4294967296):=aa;have S:i %18446744073709551616 %4294967296=i %4294967296:=aa;simp only[nM,sN,eV (aa:c<f.length),aF,rG (aa:c<a.length),B,se (aa:0<=i %18446744073709551616) aa,Cz (aa:c<a.length)];rw[sW 1 aa aa 1 ab ab,aE,S];refine bu.2 ⟨k/4294967296,-(i/4294967296),a.set c (i %4294967296),by rw[a9 aa],by simp[v],m.set aa aa,?_,aa,aa,aa,aa,?_⟩
  ·intro l bs bx O;rw[zR aa];exact y l aa aa O
  rw[nl aa,iq,iU t];grind
 rintro _ ⟨h,e,a,rfl,v,m,y,E,F,G,H,I⟩;simp_all [bu,bg,fD,aD,a7,bR,ar]
theorem VM {m:ak7} (C:aX f) (D:aX d) (L:f.length<d.length) (J:d.length<=100000000) (K:∀c a,a.length=d.length->aX a->(∀(v:f.length<a.length) (i:f.length<d.length),a[f.length]=d[f.length])->0<=c->c<=1->ak a+a2 f.length*c=ak d+ak f->y ((g.length,g.length+d.length),c,g++(a++m),())):ah (loop (σ:=(ew×Z×Z×bj×bw)) (ρ:=(ew×Z×bj×bw)) (λ(e,o,k,l,_)=>
 bif bz (k<ar f) then
 (aq f k).bind λr=>
 (bm (e.2-e.1) k).bind λE=>
 (ba l (e.1+E) λu=>Y u).bind λs=>
 (bm (e.2-e.1) k).bind λq=>
 (ba l (e.1+q) λ_=>Y (l.set (e.1+q) (eD (e3 bG (aR (aR (aR s+aR r)+o)) 4294967295)))).bind λI=>
 (eT bG (aR (aR (aR s+aR r)+o)) 32).bind λH=>
 Y (.inl (e,H,aO k,I,())) else
 Y (.inr (e,o,l,()))) ((g.length,g.length+d.length),0,0,g++(d++m),())) y:=by
 refine ah.steps f.length (λb F=>∃c a,F=((g.length,g.length+d.length),c,(b:Z),g++(a++m),())/\a.length=d.length/\aX a/\(∀j,b<=j->(v:j<a.length)->(i:j<d.length)->a[j]=d[j])/\0<=c/\c<=1/\ak a+a2 b*c=ak d+ak (f.take b)) ⟨0,d,bq,bq,D,λ_ _ _ _=>rfl,aa,aa,by simp[ak]⟩ ?_ ?_
 ·rintro b _ p ⟨c,a,rfl,w,i,x,z,A,B⟩;have N:=C.get p;have O:=i.get (n:=b) aa;obtain⟨h,M,G,P⟩:∃h,h=a[b]+f[b]+c/\0<=h/\h<8589934592:=⟨_,bq,aa,aa⟩;simp only[aI (ae:(b:Z)<ar f),bI,eP p,aF];have t:aR (aR (aR a[b]+aR f[b])+c)=h:=by
   grind [fM]
  simp only[nM,sN,eV (aa:b<d.length),aF,rG (aa:b<a.length),t,se G (aa:h<18446744073709551616),Cz (aa:b<a.length)];refine bu.2 ⟨h/4294967296,a.set b (h %4294967296),by rw[a9 aa],ae,i.set aa aa,?_,aa,aa,?_⟩
  ·grind
  grind [nl,iq,iU,amu]
 rintro _ ⟨c,a,rfl,w,i,x,z,A,B⟩;simp_all [bu,bg,fD,aD,a7,bR,ar]
theorem Xg {a d g c h f:Z} (j:a+b*d=v+e) (i:v=c-g*e-b*(4294967296*-1)):a+b*(h+d-4294967296*f-h)=c-(g-1)*e+b*(4294967296*(1-f)):=by grind
theorem Xh {d c g a h f:Z} (i:e-b*(d+c)=v-g*a):e+b*(h-d-c-4294967296*f-h)=v-g*a-b*(4294967296*f):=by grind
theorem ah.bs {c:bA n} {b:n->bA u} {a:u->Prop} {y:n} (d:c=Y y) (e:ah (b y) a):ah (c.bind b) a:=by grind
def Xi {A C:ak7} {n:X} (i:zG d f n):ah (AD ((A++(f++C),A.length,A.length+f.length),d,())) (λq=>∃b,q=(A++(b++C),ak f/ak d,())/\b.length=f.length/\aX b/\ak b=ak f %ak d):=by
 have H:=i.Hp;have dl:=i.wn;have ex:=i.QU;have k:=i.Up;have a4:=ff i.hw;have fn:=i.top;have Q:=i.hv.get (n:=n+1) aa;have O:=i.hw.get (n:=n+2) aa;have c2:=i.hw.get (n:=n+1) aa;have D:ar d=((n+2:X):Z):=(by simp only[a7];omega);have ax:az (((n+2:X):Z)-1)=((n+1:X):Z):=(by rw[cF aa aa];omega);have a0:aq d ((n+1:X):Z)=Y d[n+1]:=eP aa;obtain⟨ds,ap⟩:=Hg (x:=f[n+2]) (y:=f[n+1]) O c2;obtain⟨d0,d1⟩:=GP (x:=4294967296*f[n+2]+f[n+1]) (y:=d[n+1]) ⟨aa,aa⟩ aa;unfold AD;have m:bm (A.length+f.length-A.length) (ar d)=Y (n+2):=(by rw[sN,D];exact eV aa);have i1:bm (A.length+f.length-A.length) (az (ar d-1))=Y (n+1):=(by rw[sN,D,ax];exact eV aa);have R:aq d (az (ar d-1))=Y d[n+1]:=(by rw[D,ax];exact a0);refine ah.bs m (ah.bs (rG aa _) (ah.bs (by rw[fM O.1 aa];exact ds) (ah.bs i1 (ah.bs (rG aa _) (ah.bs R (ah.bs (by rw[ap,fM Q.1 aa];exact d0) (ah.bs R (ah.bs (by rw[ap,fM Q.1 aa];exact d1) ?_))))))));refine ah.aJ (XK i bq rfl) ?_;rintro _ ⟨g,rfl,an,aE,ft,fz⟩;refine ah.aJ (P:=λq=>∃e j b,q=((A.length,A.length+f.length),e,j,A++(b++C),())/\b.length=f.length/\aX b/\0<=e/\e<4294967296/\0<=j/\j<=1/\(∀(i:d.length<b.length) (L:d.length<f.length),b[d.length]=f[d.length])/\ak b-a2 d.length*(e+j)=ak f-g*ak d) (agj i.hv i.hw aa aa ⟨an,aE⟩ λe j b p v T U V ad am w=>⟨e,j,b,bq,p,v,U,V,ad,am,T,w⟩) ?_;rintro _ ⟨e,j,b,rfl,p,v,U,V,ad,am,T,w⟩;have fp:=v.get (n:=n+2) aa;obtain⟨c,bl,d4,d5⟩:∃c,c=b[n+2]-e-j/\-4294967296<=c/\c<4294967296:=⟨_,bq,aa,aa⟩;have K:aR (aR (aR b[n+2]-e)-j)=c %18446744073709551616:=(by rw[sy,sy,sy,bl];omega);have d2:c %18446744073709551616/4294967296 %2^1=-(c/4294967296):=(by rw[show(2:Z)^1=2 from rfl];omega);have d3:c %18446744073709551616 %4294967296=c %4294967296:=aa;refine ah.bs m (ah.bs (rG aa _) (ah.bs m (ah.bs (y:=A++(b.set (n+2) (c %4294967296)++C)) ?_ (ah.bs (y:=c %18446744073709551616/4294967296) ?_ ?_))))
 ·rw[rG aa,K,se aa aa,Cz aa,d3]
 ·rw[K,nM]
 rw[sW 1 aa aa 1 ab ab,d2];have d9:=gm (n+2);have cv:ak (b.set (n+2) (c %4294967296))=ak b+a2 (n+2)*(c %4294967296-b[n+2]):=nl aa _;have r:aX (b.set (n+2) (c %4294967296)):=v.set aa aa;rw[H] at w;have d6:=ml c 4294967296;have s:ak (b.set (n+2) (c %4294967296))=ak f-g*ak d-a2 (n+2)*(4294967296*(c/4294967296)):=(by rw[cv];generalize c/4294967296=z at*;generalize c %4294967296=B at*;have:B=b[n+2]-e-j-4294967296*z:=aa;rw[this];exact Xh w);have ci:=ho r;have ek:=ff r;rw[anf,p,dl,(aa:n+3=(n+2)+1),iq] at ci;have M:=ml (ak f) (ak d);have em:=oy (ak f) (aa:ak d≠0);have eq:=p6 (ak f) k;rw[gp,cW];refine ah.ite (λav=>?_) λav=>?_
 ·have F:c/4294967296=0:=aa;rw[F] at s;have l:ak f/ak d=g:=by
   have E:g*ak d<=ak f:=aa;have L:g<=ak f/ak d:=(an1 k).2 E;omega
  rw[aS (by simp;omega),lV an aE];refine bu.2 ⟨_,by rw[l],by simp[p],r,?_⟩;rw[s];rw[l] at M;rw[lu g];omega
 have F:c/4294967296=-1:=aa;rw[F] at s;have l:ak f/ak d=g-1:=(by have E:ak f<g*ak d:=aa;have L:ak f/ak d<g:=sE k E;have d7:(g-1)*ak d<ak f+1:=(by have:(g-1)*ak d=g*ak d-ak d:=ae;omega);have d8:g-1<=ak f/ak d:=(an1 k).2 aa;omega);have fl:=mR a4 (fu k);have G:(b.set (n+2) (c %4294967296)).length=f.length:=(by simp[p]);rw[<-G];refine ah.aJ (P:=λq=>∃e a,q=((A.length,A.length+(b.set (n+2) (c %4294967296)).length),e,A++(a++C),())/\a.length=f.length/\aX a/\0<=e/\e<=1/\ak a+a2 d.length*e=ak (b.set (n+2) (c %4294967296))+ak d) (VM i.hv r aa aa λe a I o fs J S u=>⟨e,a,bq,by rw[I,G],o,J,S,u⟩) ?_;rintro _ ⟨h,a,rfl,I,o,J,S,u⟩;rw[G];have fr:=o.get (n:=n+2) aa;refine ah.bs m (ah.bs (rG aa _) (ah.bs m (ah.bs (y:=A++(a.set (n+2) ((a[n+2]+h) %4294967296)++C)) ?_ ?_)))
 ·rw[rG aa,Cz aa,lV J aa,p1]
 rw[aS (by simp;omega),fM aa aa,lV aa aa];refine bu.2 ⟨a.set (n+2) ((a[n+2]+h) %4294967296),by rw[l],by simp[I],o.set aa aa,?_⟩;have c1:ak (a.set (n+2) ((a[n+2]+h) %4294967296))=ak a+a2 (n+2)*((a[n+2]+h) %4294967296-a[n+2]):=nl aa _;have N:aX (a.set (n+2) ((a[n+2]+h) %4294967296)):=o.set aa aa;have co:=ho N;have el:=ff N;have ce:(a.set (n+2) ((a[n+2]+h) %4294967296)).length=(n+2)+1:=(by rw[anf];omega);rw[ce,iq] at co;have f2:=ml (a[n+2]+h) 4294967296;rw[H] at u;have t:ak (a.set (n+2) ((a[n+2]+h) %4294967296))=ak f-(g-1)*ak d+a2 (n+2)*(4294967296*(1-(a[n+2]+h)/4294967296)):=(by rw[c1];generalize(a[n+2]+h)/4294967296=z at*;generalize(a[n+2]+h) %4294967296=B at*;have:B=a[n+2]+h-4294967296*z:=aa;rw[this];exact Xg u s);rw[l] at M;have bx:ak f-(g-1)*ak d=ak f %ak d:=(by rw[lu (g-1)];omega);rw[bx] at t;have dg:=ho i.hv;rw[H] at dg;have cs:(a[n+2]+h)/4294967296=1:=by
  rcases jB 0 ((a[n+2]+h)/4294967296) with a3|a3
  ·omega
  exfalso;have:(a[n+2]+h)/4294967296=0:=aa;rw[this] at t;omega
 rw[cs] at t;rw[t];simp
theorem vX (a:0<=b):ak (e2 b.toNat)=b:=by grind [tG]
def aaz {n:X} (f:aX d) (m:fd d) (u:d.length=n+2):∃c:X,c<=31/\vB (d[n+1],())=Y ((c:Z),())/\ak d*2^c<a2 (n+2)/\2147483648*a2 (n+1)<=ak d*2^c:=by
 have l:=f.get (n:=n+1) aa;have q:d[n+1]≠0:=m _ (by rw[apY,bh aa];congr 2;omega);have h:ak d=ak (d.take (n+1))+a2 (n+1)*d[n+1]:=(by rw[<-iU aa,fD aa]);have r:=ff (f.take (n+1));have j:=ho (f.take (n+1));rw[gu,h5 aa] at j;generalize d[n+1]=v at*;obtain⟨a,rfl⟩:=gB l.1;have i:0<a:=aa;have t:aV a<=32:=fZ.2 aa;have s:=qv i;obtain⟨g,o⟩:=xL i;obtain⟨b,k⟩:∃b,aV a=b+1:=⟨aV a-1,aa⟩;refine⟨32-aV a,aa,?_,?_,?_⟩
 ·unfold vB;refine aj (Kl (n:=a) aa) ?_;show Y (az (32-(aV a:Z)),())=_;rw[cF aa aa];congr 2;omega
 ·have ax:ak d<a2 (n+1)*2^aV a:=by
   have:a2 (n+1)*((a:Z)+1)<=a2 (n+1)*2^aV a:=j2 (by rw[<-za];omega) (fu (gm _));have p:a2 (n+1)*((a:Z)+1)=a2 (n+1)*(a:Z)+a2 (n+1):=(by rw[ap5,ap6]);show ak d<_;rw[h];show ak (d.take (n+1))+a2 (n+1)*(a:Z)<_;omega
  have e:ak d*2^(32-aV a)<a2 (n+1)*2^aV a*2^(32-aV a):=sG ax (kp _);rw[kK,<-l3,(aa:aV a+(32-aV a)=32)] at e;rw[iq,lu];rw[lu];have:a2 (n+1)*2^32=4294967296*a2 (n+1):=(by rw[lu];rfl);omega
 have ax:a2 (n+1)*2^b<=ak d:=(by have:a2 (n+1)*2^b<=a2 (n+1)*(a:Z):=j2 (by rw[<-za];rw[k] at g;simp only[aoX] at g;omega) (fu (gm _));rw[h];show _<=ak (d.take (n+1))+a2 (n+1)*(a:Z);omega);have e:a2 (n+1)*2^b*2^(32-aV a)<=ak d*2^(32-aV a):=nR ax (fu (kp _));rw[kK,<-l3,(aa:b+(32-aV a)=31)] at e;have:a2 (n+1)*2^31=2147483648*a2 (n+1):=(by rw[lu];rfl);omega
def Xk (g:ak d=b) (e:aX d) (l:fd d) (q:b<a2 (a+2)) (r:2147483648*a2 (a+1)<=b):∃c:d.length=a+2,2147483648<=d[a+1]:=by
 have t:=gm (a+1);have k:d.length=a+2:=by
  have o:=ho e;have h:d≠[]:=λi=>(by rw[i] at g;simp only[ak] at g;omega);have p:=fd.low e l h;rcases sO d.length (a+2) with c|c|c
  ·have:=pV (m:=d.length) (n:=a+1) aa;omega
  ·exact c
  have:=pV (m:=a+2) (n:=d.length-1) aa;omega
 refine⟨k,?_⟩;have s:ak d=ak (d.take (a+1))+a2 (a+1)*d[a+1]:=(by rw[<-iU aa,fD aa]);have j:=ho (e.take (a+1));rw[gu,h5 aa] at j;rcases jB d[a+1] 2147483648 with f|f
 ·exfalso;have:a2 (a+1)*(d[a+1]+1)<=a2 (a+1)*2147483648:=j2 aa aa;rw[ap5,ap6] at this;omega
 exact f
theorem OC {g c h f d a:Z} (k:(f+b*(h+a))+e*c=g) (i:h=e*v+d):(f+b*(d+a))+e*(c+b*(v-0))=g:=by subst i;have ax:b*(e*v+d+a)=b*(d+a)+b*(e*v):=ae;have j:e*(c+b*(v-0))=e*c+b*(e*v):=ae;omega
def Xj {n:X} (z:aX d) (J:ak d=b) (d5:b<a2 (n+2)) (L:d.length=n+2) (a3:2147483648<=d[n+1]) (co:n<=10000000) (a4:aX f) (am:ak f=e) (V:f.length=c) (el:c=a+(n+2)) (d4:c<=10000000) (ap:ak (f.drop a)<b) {H:j9->Prop} (ad:∀i h,i.length=a->aX i->h.length=c->aX h->ak h+b*ak i=e->ak h<b->H (i,h,())):ah (loop (σ:=(Z×bj×bj×bw)) (ρ:=j9) (λ(r,P,u,_)=>
 bif bz (r>=0) then
 ((gF r).bind λM=>(gF (aO (az (r+ar d)))).bind λN=>(he M N u.length).bind λ_=>(oi u.length).map λ_=>(M,N)).bind λt=>
  bif cg t.1 t.2 then
 (AD ((u,t.1,t.2),d,())).bind λ(ci,cs,_)=>
 wr P r cs λdl=>
 Y (.inl (az (r-1),dl,ci,())) else bv else
 Y (.inr (P,u,()))) (az (ar (bJ a (0:Z))-1),bJ a (0:Z),f,())) H:=by
 have K:0<b:=(by have o:=Hm L;have q:=ff (z.take n);have d0:=z.get (n:=n) aa;have d1:0<(d[n+1]*4294967296+d[n])*a2 n:=p7 aa (gm n);omega);refine ah.steps a (λl cv=>∃i h,cv=(((a:X):Z)-1-l,i,h,())/\i.length=a/\aX i/\(∀g,g<a-l->(an:g<i.length)->i[g]=0)/\h.length=c/\aX h/\ak h+b*ak i=e/\ak (h.drop (a-l))<b) ⟨bJ a 0,f,?_,ac,alR _,ac,V,a4,by rw[p0,am];omega,ap⟩ ?_ ?_
 ·rw[show az (ar (bJ a (0:Z))-1)=(a:Z)-1-((0:X):Z) from ?_];simp only[a7,rp];rw[cF aa aa];omega
 ·rintro l _ d9 ⟨i,h,rfl,aE,E,F,G,p,o,q⟩;obtain⟨g,an⟩:∃g,a=g+1+l:=⟨a-1-l,aa⟩;have ax:((a:X):Z)-1-(l:Z)=(g:Z):=aa;rw[(aa:a-l=g+1)] at q;have R:aO (az ((g:Z)+ar d))=((g+(n+3):X):Z):=by
   simp only[a7];rw[cF aa aa,(aa:(g:Z)+(d.length:Z)=((g+(n+2):X):Z)),a9 aa];rfl
  simp only[ax,aI (aa:(g:Z)>=0),bI,R,wv,aF,qN (aa:g<=g+(n+3)/\g+(n+3)<=h.length),Lp (aa:0<h.length),jv,show cg g (g+(n+3))=bt from by simp];obtain⟨m,v⟩:∃m,m=h.take g:=⟨_,bq⟩;obtain⟨j,B⟩:∃j,j=(h.drop g).take (n+3):=⟨_,bq⟩;obtain⟨k,x⟩:∃k,k=h.drop (g+(n+3)):=⟨_,bq⟩;have w:m.length=g:=(by rw[v,gu];omega);have s:j.length=n+3:=(by rw[B,gu,nS];omega);have y:h=m++(j++k):=(by rw[v,B,x,<-ri,jF,jF]);have d2:k.length=c-(g+(n+3)):=(by rw[x,nS,G]);have ce:aX m:=(by rw[v];exact p.take g);have D:aX j:=(by rw[B];exact(p.drop g).take _);have O:aX k:=(by rw[x];exact p.drop _);have d6:ak (h.drop g)=ak j+a2 (n+3)*ak k:=(by rw[y,sJ aa,rj aa,iD,mM,s]);have d7:ak (h.drop g)=h[g]+4294967296*ak (h.drop (g+1)):=nk aa;have eq:=p.get (n:=g) aa;have T:=ff O;have d3:0<=a2 (n+3)*ak k:=mS (fu (gm _)) T;have ek:ak (h.drop g)<4294967296*b:=aa;have U:ak k=0:=by
   rcases jB 0 (ak k) with S|S
   ·exfalso;have:=j2 (aa:1<=ak k) (fu (gm (n+3)));have ds:a2 (n+3)=4294967296*a2 (n+2):=iq (n+2);have:=ff D;omega
   omega
  have Q:zG d j n:=⟨z,D,L,s,co,a3,by rw[J];omega⟩;have av:0<=ak j/b:=al4 (ff D) aa;have a0:ak j/b<4294967296:=ap7 K aa;have d8:=amu (ak j) b;have em:=ang (ak j) K;have I:=Xi (A:=m) (C:=k) Q;rw[<-y,w,s,J] at I;refine ah.aJ I ?_;rintro _ ⟨c1,rfl,c2,dg,eD⟩;dsimp only;rw[lX aa];refine bu.2 ⟨i.set g (ak j/b),m++(c1++k),?_,by simp[aE],E.set av a0,?_,by simp;omega,anh.2 ⟨ce,anh.2 ⟨dg,O⟩⟩,?_,?_⟩
  ·rw[cF aa aa];congr 1;omega
  ·intro bs ex bx;rw[zR aa];exact F bs aa (by simpa using bx)
  ·rw[nl aa,F g aa aa,mM,mM,w,eD];rw[y,mM,mM,w] at o;rw[c2];rw[s] at o;have bl:ak j=b*(ak j/b)+ak j %b:=aa;exact OC o bl
  rw[(aa:a-(l+1)=g),sJ aa,rj aa,iD,mM,U,eD];omega
 rintro _ ⟨i,h,rfl,aE,E,F,G,p,o,q⟩;have ax:¬(((a:X):Z)-1-(a:Z)>=0):=aa;simp only[aD ax,bR];rw[pt,mm] at q;exact bu.2 (ad i h aE E G p o q)
def GQ {A B q r:Z} (f:0<B) (b:A=B*q+r) (c:0<=r) (d:r<B):A/B=q/\A %B=r:=by have e:=ml A B;have a:A/B=q:=(by rw[b,Int.mul_add_ediv_left _ _ aa,p5 c d];omega);refine⟨a,?_⟩;rw[a] at e;omega
def Xl (l:aX d) (p:aX f) (V:fd d) (F:fd f) (fl:d.length<=1000000) (fn:f.length<=1000000) (N:f≠[]):D2 (d,f,())=Y (e2 (ak d/ak f).toNat,e2 (ak d %ak f).toNat,()):=by
 unfold D2;refine bQ.1 ?_;have K:=ff l;have I:0<ak f:=(by have:=ff p;have:ak f≠0:=λam=>N (anV p F am);omega);refine ah.bs (Iw l p V F aa aa) ?_;dsimp only;rw[cW];refine ah.ite (λt=>?_) λt=>?_
 ·have C:ak d<ak f:=by
   unfold fo at t;split at t
   ·assumption
   split at t<;>omega
  refine ah.bs (Am aa) (bu.2 ?_);rw[p5 K C,sF K C];show(([]:ak7),d,())=(e2 0,e2 (ak d).toNat,());rw[Jk,<-amO l V]
 have el:ak f<=ak d:=by
  unfold fo at t;split at t
  ·omega
  omega
 rw[gp,cW];refine ah.ite (λh=>?_) λh=>?_
 ·have h:f.length=1:=(by simp only[a7] at h;omega);obtain⟨o,rfl⟩:=List.length_eq_one_iff.1 h;have co:=(al5.1 p).1;have u:ak [o]=o:=(by simp[ak]);rw[u] at I|-;have d2:0<=ak d %o:=ani _ aa;have ex:ak d %o<o:=ang _ I;refine ah.bs (y:=o) rfl (ah.bs (afR l aa aa co.2) ?_);dsimp only;refine ah.bs (pf (al5.2 ⟨⟨d2,aa⟩,alQ⟩) ac) (bu.2 ?_);show(_,iT [ak d %o],())=_;rw[iT];simp[ak]
 obtain⟨b,cv⟩:∃b,f.length=b+2:=(by have:=zS.2 N;simp only[a7] at h;exact⟨f.length-2,aa⟩);have ax:az (ar f-1)=((b+1:X):Z):=(by simp only[a7];rw[cF aa aa];omega);obtain⟨a,T,d4,U,d5⟩:=aaz p F cv;have em:b+2<=d.length:=by
  rcases cY d.length (b+2) with j|j
  ·have:=q8 l p F aa;omega
  exact j
 have D:=kp a;refine ah.bs (y:=f[b+1]) (by rw[ax];exact eP aa) (ah.bs d4 ?_);refine ah.bs (Mq p aa aa) ?_;obtain⟨s,u⟩:∃s,s=e2 (ak f*2^a).toNat:=⟨_,bq⟩;have bl:0<=ak f*2^a:=am9 aa aa;have M:ak s=ak f*2^a:=(by rw[u,vX bl]);have wi:aX s:=(by rw[u];exact oZ _);have d6:fd s:=(by rw[u];exact yy _);obtain⟨ds,c1⟩:=Xk M wi d6 U d5;rw[<-u];have an:aO (ar d)=((d.length+1:X):Z):=a9 aa;refine ah.bs (y:=d.length+1) (by rw[an];exact hP aa) ?_;refine ah.bs (Mq l aa aa) ?_;have a4:0<=ak d*2^a:=am9 aa aa;have ek:ak d*2^a<a2 (d.length+1):=(by have w:ak d*2^a<a2 d.length*2^a:=anY (ho l) D;have x:a2 d.length*2^a<=a2 d.length*4294967296:=an2 (by have:=wI T;omega) (aln (gm _));rw[iq,ame 4294967296];omega);obtain⟨m,E⟩:∃m,m=e2 (ak d*2^a).toNat:=⟨_,bq⟩;have R:m.length<=d.length+1:=(by rw[E];exact rX aa);have d1:aX m:=(by rw[E];exact oZ _);have d0:ak m=ak d*2^a:=(by rw[E,vX a4]);rw[<-E];obtain⟨i,O⟩:∃i,i=jS (bJ (d.length+1) (0:Z)) m 0 (bJ (d.length+1) (0:Z)).length:=⟨_,bq⟩;have J:i=m++bJ (d.length+1-m.length) 0:=(by rw[O];unfold jS;rw[List.take_zero,aoY,List.length_replicate,Nat.sub_zero,cj R,ap8,amt R,List.drop_replicate]);have dg:i.length=d.length+1:=(by rw[J];simp;omega);have S:aX i:=(by rw[J];exact anh.2 ⟨d1,alR _⟩);have Q:ak i=ak d*2^a:=(by rw[J,mM,p0,d0];omega);dsimp only;rw[<-O];obtain⟨g,cs⟩:∃g,d.length+1=g+(b+2):=⟨d.length+1-(b+2),aa⟩;have ap:az (ar i-ar s)=((g:X):Z):=(by simp only[a7];rw[cF aa aa];omega);refine ah.bs (y:=g) (by rw[ap];exact hP aa) ?_;have C:ak (i.drop g)<ak f*2^a:=(by have h:=ph i g aa;have w:=ff (S.take g);rw[Q] at h;have x:ak d*2^a<a2 d.length*2^a:=anY (ho l) D;have H:a2 d.length=a2 g*a2 (b+1):=(by rw[<-uH];congr 1;omega);have v:a2 g*ak (i.drop g)<a2 g*(a2 (b+1)*2^a):=(by rw[<-Int.mul_assoc,<-H];omega);have z:=anj v (aln (gm g));have d9:a2 (b+1)*2^a<=a2 (b+1)*2147483648:=an2 (wI T) (aln (gm _));omega);refine ah.aJ (P:=λad=>∃c e,ad=(c,e,())/\c.length=g/\aX c/\e.length=d.length+1/\aX e/\ak e+ak f*2^a*ak c=ak d*2^a/\ak e<ak f*2^a) (Xj wi M U ds c1 aa S Q dg cs aa C λc e h w x H v z=>⟨c,e,bq,h,w,x,H,v,z⟩) ?_;rintro _ ⟨c,e,rfl,aE,d3,fp,G,v,z⟩;have av:ar s=((b+2:X):Z):=(by simp only[a7];omega);dsimp only;rw[av];refine ah.bs (G6 aa) ?_;have c2:=ff G;have dl:ak (e.take (b+2))=ak e:=by
  have h:=ph e (b+2) aa;have w:=ff (G.drop (b+2));have x:=ff (G.take (b+2));rcases jB 0 (ak (e.drop (b+2))) with j|j
  ·exfalso;have:=j2 (aa:1<=ak (e.drop (b+2))) (fu (gm (b+2)));omega
  rw[(aa:ak (e.drop (b+2))=0)] at h;omega
 have L:ak e=2^a*(ak d-ak f*ak c):=(by have d7:ak f*2^a*ak c=2^a*(ak f*ak c):=ae;have d8:2^a*(ak d-ak f*ak c)=2^a*ak d-2^a*(ak f*ak c):=Int.mul_sub ..;rw[lu (ak d)] at v;omega);have bx:0<=ak d-ak f*ak c:=by
  rcases jB (ak d-ak f*ak c) 0 with j|j
  ·have:=ap9 D j;omega
  exact j
 have ce:ak d-ak f*ak c<ak f:=(by have:2^a*(ak d-ak f*ak c)<2^a*ak f:=(by rw[<-L,ame (2^a)];exact z);exact anj this (aln D));have ci:ak e/2^a=ak d-ak f*ak c:=(by rw[L];exact aqa _ aa);obtain⟨a3,f2⟩:=GQ (A:=ak d) (B:=ak f) (q:=ak c) (r:=ak d-ak f*ak c) I aa bx ce;refine ah.bs (pf ((G.take _).drop _) (by simp;omega)) ?_;have a0:iT (aoW 0 (e.take (b+2)))=e2 (ak e).toNat:=(by rw[List.drop_zero,iT,dl]);dsimp only;rw[a0];refine ah.bs (OE (oZ _) (yy _) ?_ aa) ?_
 ·have:=rX (n:=(ak e).toNat) (k:=b+2) aa;omega
 dsimp only;refine ah.bs (pf d3 aa) (bu.2 ?_);show(iT c,_,())=_;rw[vX c2,ci,a3,f2,iT]
def OW (a:X):e2 (a:Z).toNat=e2 a:=by rw[gg]
theorem Bn (b:aV c<=32*a):(e2 c).length<=a:=by refine rX ?_;grind [re,za,fZ]
theorem Dz:fo b e>=0↔e<=b:=by grind [fo]
theorem Oc:fo b e<0↔b<e:=by grind [fo]
def CW (a:p3):Prop:=aX a.2.1/\fd a.2.1/\a.2.1.length<=100000
def ik {z:Z} (a:aV z.natAbs<=3000000):CW (aY z):=⟨m3 z,Fu z,Bn aa⟩
theorem pZ (a:aX d) (b:fd d) (e:d.length<=1000000):i5 (d,())=Y (d,()):=by have c:=amO a b;rw[pf a aa];show Y (e2 (ak d).toNat,())=_;grind
theorem s4 {neg:bD} {x:Z} (a:0<=x) (b:(e2 x.toNat).length<=100000000):my (neg,e2 x.toNat,())=Y (aY (if neg then-x else x),()):=by grind [vX,xI,oZ,hJ]
theorem XA {x y:X} {k:X} (a:(e2 x).length<=k) (b:(e2 y).length<=k):(e2 (x+y)).length<=k+1:=by refine rX ?_;have c:=OV x;have d:=OV y;have e:=pV a;have f:=pV b;grind [iq,gm]
def CM {l:ak7} (d:aX l) (c:l.length<=a) (g:b<=ak l):(e2 b.toNat).length<=a:=by refine rX ?_;have e:=ho d;have f:=pV c;have:=gm a;omega
theorem Nd {a b:p3} (t:CW a) (u:CW b):tg (a,b,())=Y (aY (hJ a+hJ b),()):=by
 obtain⟨j,a,_⟩:=a;obtain⟨k,b,_⟩:=b;obtain⟨c,g,r⟩:=t;obtain⟨d,h,s⟩:=u;dsimp only at c g r d h s;have x:=ff c;have y:=ff d;have aE:=ho c;have z:=ho d;have A:=pV (m:=a.length) (n:=100000) r;have B:=pV (m:=b.length) (n:=100000) s;have C:=gm 100000;have w:∀e:Z,e<=ak a+ak b->(e2 e.toNat).length<=100000001:=λe v=>(by have:(e2 e.toNat).length<=100001:=(by refine rX ?_;grind [iq]);omega);have q:∀e:Z,e<=ak a+ak b->(e2 e.toNat).length<=100000000:=λe v=>(by have:(e2 e.toNat).length<=100001:=(by refine rX ?_;grind [iq]);omega);unfold tg;dsimp only;refine aj (pZ c g aa) (aj (pZ d h aa) ?_);dsimp only;cases i:(j==k) with
 |true=>
  have i:j=k:=ae;subst i;refine aj (Sg c d aa aa) (aj (s4 aa (q _ aa)) ?_);grind [hJ]
 |false=>
  have i:j=!k:=(by cases j<;>cases k<;>simp at i|-);refine aj (Iw c d g h aa aa) ?_;dsimp only;rw[cW];split
  ·rename_i l;have p:ak b<=ak a:=Dz.1 l;have o:b.length<=a.length:=by
    rcases cY a.length b.length with f|f
    ·have:=q8 c d h f;omega
    omega
   refine aj (Qy c d aa o p) (aj (s4 aa (q _ aa)) ?_);grind [hJ]
  rename_i l;have p:ak a<ak b:=Int.not_le.1 (mt Dz.2 l);have o:a.length<=b.length:=by
   rcases cY b.length a.length with f|f
   ·have:=q8 d c g f;omega
   omega
  refine aj (Qy d c aa o (fu p)) (aj (s4 aa (q _ aa)) ?_);grind [hJ]
def H0 {x y:Z} (a:aV x.natAbs<=3000000) (b:aV y.natAbs<=3000000):tg (aY x,aY y,())=Y (aY (x+y),()):=by rw[Nd (ik a) (ik b),pg,pg]
theorem agi {x y:Z} (b:aV x.natAbs<=3000000) (c:aV y.natAbs<=3000000):D1 (aY x,aY y,())=Y (aY (x-y),()):=by unfold D1;have a:CW ((!(aY y).1,(aY y).2):p3):=⟨m3 y,Fu y,(ik c).2.2⟩;refine aj (Nd (ik b) a) ?_;rw[pg];have d:hJ ((!(aY y).1,(aY y).2):p3)=-y:=(by have:=Hk (aY y).1 (aY y).2.1;have e:=pg y;grind);grind
theorem aah (f:aV b.natAbs<=3000000) (g:aV e.natAbs<=3000000):DZ (aY b,aY e,())=Y (aY (b*e),()):=by
 unfold DZ;dsimp only;obtain⟨a,h,l⟩:=ik f;obtain⟨c,i,m⟩:=ik g;refine aj (pZ a h aa) (aj (pZ c i aa) ?_);dsimp only;refine aj (agz a c aa aa) ?_;rw[iQ,iQ,<-anB,OW];dsimp only;have n:(e2 (b.natAbs*e.natAbs)).length<=100000000:=(by have:(e2 (b.natAbs*e.natAbs)).length<=200000:=(by refine Bn ?_;have:=xM f g;omega);omega);have d:=s4 (neg:=!((aY b).1==(aY e).1)) (x:=((b.natAbs*e.natAbs:X):Z)) aa ae;rw[OW] at d;refine aj d ?_;dsimp only;congr 3;show(if(!(bz (b<0)==bz (e<0)))=bt then _ else _)=_;rw[anB];rcases amd b 0 with j|j<;>rcases amd e 0 with k|k
 ·grind
 ·grind
 ·grind
 grind
theorem Od {x y:Z} (i:aV x.natAbs<=900000) (l:aV y.natAbs<=900000):AB (aY x,aY y,())=Y (fo x y,()):=by
 obtain⟨c,d,m⟩:=ik (z:=x) aa;obtain⟨e,f,n⟩:=ik (z:=y) aa;unfold AB;refine aj (uy (jU aa)) (aj (uy (jU aa)) ?_);dsimp only;rw[cW,cW];have h:∀a:Z,a<0/\gI a=-1\/a=0/\gI a=0\/0<a/\gI a=1:=λa=>(by grind [gI]);split
 ·rename_i o;unfold fo;grind
 split
 ·rename_i j k;unfold fo;grind
 rename_i j k;have p:gI x=gI y:=aa;refine aj (pZ c d aa) (aj (pZ e f aa) ?_);dsimp only;refine aj (Iw c e d f aa aa) ?_;rw[iQ,iQ];dsimp only;have i:=h x;have l:=h y;have:gI x*fo (x.natAbs:Z) (y.natAbs:Z)=fo x y:=by
  rcases i with⟨g,b⟩|⟨g,b⟩|⟨g,b⟩<;>rw[b]
  ·unfold fo;omega
  ·rw[oz];unfold fo;omega
  grind
 grind [cF,fo]
def aaj (b:Z) (a:X):(b.natAbs:Z)*2^a=((b.natAbs*2^a:X):Z):=by simp
theorem Ag:aV (a*2^c)<=aV a+c:=by
 rcases qj a with b|b
 ·grind
 simp_all [s5,bg]
theorem afQ (i:aV b.natAbs<=1900000) (h:a<=1048576):rL (aY b,(a:Z),())=Y (aY (b*2^a),0,()):=by obtain⟨c,d,f⟩:=ik (z:=b) aa;unfold rL;dsimp only;rw[aD (aa:¬((a:Z)< -1048576)),aD (aa:¬((a:Z)>1048576))];refine aj bq (aj (pZ c d aa) ?_);dsimp only;rw[aI (aa:(a:Z)>=0)];refine aj (Mq c aa aa) ?_;rw[iQ,aaj];have g:(e2 (b.natAbs*2^a)).length<=100000:=Bn (by grind [Ag]);have e:=s4 (neg:=(aY b).1) (x:=((b.natAbs*2^a:X):Z)) aa ae;refine aj e ?_;dsimp only;congr 3;show(if bz (b<0)=bt then _ else _)=_;grind
theorem QR {m:Z} (a:0<b) (d:0<=m):-m/b=if m %b=0 then-(m/b) else-(m/b+1):=by
 have e:=ml m b;have f:=oy m (aa:b≠0);have g:=p6 m a;split
 ·rename_i c;refine(GQ (A:=-m) (B:=b) (q:=-(m/b)) (r:=0) a ?_ (amb _) a).1;grind
 rename_i c;refine(GQ (A:=-m) (B:=b) (q:=-(m/b+1)) (r:=b-m %b) a ?_ aa aa).1;grind
theorem afP (u:aV b.natAbs<=1900000) (q:a<=1048576) (r:0<a):rL (aY b,-(a:Z),())=Y (aY (b/2^a),0,()):=by
 obtain⟨e,f,g⟩:=ik (z:=b) aa;have i:=kp a;unfold rL;dsimp only;rw[aD (aa:¬(-(a:Z)< -1048576)),aD (aa:¬(-(a:Z)>1048576))];refine aj bq (aj (pZ e f aa) ?_);dsimp only;rw[aD (aa:¬(-(a:Z)>=0))];have ax:az (0- -(a:Z))=(a:Z):=(by grind [cF]);rw[ax];refine aj (OE e f aa aa) ?_;rw[iQ];have s:0<=(b.natAbs:Z)/2^a:=al4 aa aa;have j:(b.natAbs:Z)/2^a<=b.natAbs:=ank _ aa;have h:∀d:Z,d<=b.natAbs->(e2 d.toNat).length<=100000:=λd t=>CM (l:=(aY b).2.1) e g (by grind [iQ]);have p:(e2 ((b.natAbs:Z)/2^a+1).toNat).length<=100001:=(by have n:=XA (x:=((b.natAbs:Z)/2^a).toNat) (y:=1) (k:=100000) (h _ j) ab;grind);dsimp only;refine aj (y:=(e2 (if b<0/\(b.natAbs:Z) %2^a≠0 then(b.natAbs:Z)/2^a+1 else(b.natAbs:Z)/2^a).toNat,(br,([],())),())) ?_ ?_
 ·refine aj (y:=(bz (b<0/\(b.natAbs:Z) %2^a≠0),(br,([],())),())) ?_ ?_
  ·show(bif bz (b<0)==bt then _ else _)=_;by_cases c:b<0
   ·simp[c]
   grind
  dsimp only;by_cases c:b<0/\(b.natAbs:Z) %2^a≠0
  ·rw[aI c,aB c];refine aj (Sg (oZ _) (al5.2 ⟨ab,alQ⟩) ae ac) ?_;grind [vX,ak]
  grind
 dsimp only;refine aj (s4 ?_ ?_) ?_
 ·omega
 ·grind
 dsimp only;congr 3;show(if bz (b<0)=bt then _ else _)=_;by_cases c:b<0
 ·rw[aB (aI c)];have o:=QR (m:=b.natAbs) i aa;grind
 grind
theorem Xm {x y:Z} (u:aV x.natAbs<=1900000) (w:aV y.natAbs<=1900000) (v:0<=x) (k:y≠0):DX (aY x,aY y,())=Y (aY (x/y),aY (x %y),0,()):=by obtain⟨b,d,g⟩:=ik (z:=x) aa;obtain⟨c,e,h⟩:=ik (z:=y) aa;unfold DX;dsimp only;refine aj (pZ c e aa) ?_;dsimp only;have f:(aY y).2.1≠[]:=λi=>k (yw.1 i);rw[tX,aD f];refine aj (pZ b d aa) ?_;dsimp only;refine aj (Xl b c d e aa aa f) ?_;rw[iQ,iQ];dsimp only;have m:(aY x).1=br:=aD aa;have n:0<=(x.natAbs:Z)/(y.natAbs:Z):=al4 aa aa;have s:(x.natAbs:Z)/(y.natAbs:Z)<=x.natAbs:=ank _ aa;have o:0<=(x.natAbs:Z) %(y.natAbs:Z):=ani _ aa;have t:(x.natAbs:Z) %(y.natAbs:Z)<(y.natAbs:Z):=ang _ aa;have q:∀a:Z,a<=x.natAbs->(e2 a.toNat).length<=100000:=λa p=>CM (l:=(aY x).2.1) b g (by grind [iQ]);have r:∀a:Z,a<=y.natAbs->(e2 a.toNat).length<=100000:=λa p=>CM (l:=(aY y).2.1) c h (by grind [iQ]);rw[m];refine aj bq ?_;dsimp only;refine aj (s4 n ae) (aj (s4 o ae) ?_);dsimp only;have ax:(x.natAbs:Z)=x:=aa;rw[ax];have j:x %(y.natAbs:Z)=x %y:=(by grind [aqb,amd]);rw[j];congr 3;show(if(!(br==bz (y<0)))=bt then _ else _)=_;grind [aD,aI,aqc,amd]
theorem FH {n:Z} (c:-9223372036854775808<=n) (d:n<=9223372036854775807):vx (n,())=Y (aY n,()):=by
 unfold vx;dsimp only;obtain⟨a,e,b,f⟩:∃a:Z,a=n.natAbs/\0<=a/\a<=9223372036854775808:=⟨_,bq,aa,aa⟩;refine aj (y:=(a,(br,([],())),())) ?_ ?_
 ·rw[cW];grind [sy]
 dsimp only;rw[nM,bM,se b aa,lV (x:=a/4294967296) aa aa];refine aj (xI (al5.2 ⟨⟨aa,aa⟩,al5.2 ⟨⟨aa,aa⟩,alQ⟩⟩) ac) ?_;grind [ak,hJ]
theorem Y4 (c:aX d) (s:d.length<=2) {e:cS->Prop} (q:e (ak d,())):ah (loop (σ:=nA) (ρ:=cS) (λ(j,b,_)=>
 bif bz (b<ar d) then
 (aq d b).bind λo=>
 (iz bG (aR o) (az (32*b))).bind λp=>
 Y (.inl (gM bG j p,aO b,())) else
 Y (.inr (j,()))) (0,0,())) e:=by
 refine ah.steps d.length (λa n=>n=(ak (d.take a),(a:Z),())) rfl ?_ ?_
 ·rintro a _ g rfl;have i:=c.get g;simp only[aI (ae:(a:Z)<ar d),bI,eP g,aF];have k:=ff (c.take a);have f:=ho (c.take a);rw[gu,h5 aa,re] at f;have ax:az (32*(a:Z))=((32*a:X):Z):=(by grind [cF]);have l:(2:Z)^(32*a)<=4294967296:=by
   rcases(aa:a=0\/a=1) with rfl|rfl<;>decide
  have m:=kp (32*a);have r:d[a]*2^(32*a)<4294967296*4294967296:=(by have:=j2 l i.1;omega);have h:0<=d[a]*2^(32*a):=mS i.1 (fu m);rw[ax,fM (x:=d[a]) aa aa,ou aa aa,aF,gg,sF h aa,nK (32*a) k f h aa aa (anZ _ _),a9 aa];grind [iU,re,ame,bu]
 rintro _ rfl;simp_all [bu,fD,bg,aD,a7,bR,ar]
theorem Y5 {z:Z} (h:0<=z) (c:z<9223372036854775808):DY (aY z,())=Y (z,bt,()):=by have i:aV z.natAbs<=64:=fZ.2 aa;obtain⟨a,b,g⟩:=ik (z:=z) aa;have d:(aY z).2.1.length<=2:=Bn aa;unfold DY;dsimp only;refine bQ.1 ?_;refine ah.bs (pZ a b aa) ?_;dsimp only;rw[aD (ae:¬(ar (aY z).2.1>2)),bR];refine ah.aJ (P:=λf=>f=(z,())) (Y4 a d (by grind [iQ])) ?_;rintro _ rfl;have e:(aY z).1=br:=aD aa;dsimp only;rw[e];refine ah.bs (y:=.inr (z,bt,())) ?_ (bu.2 bq);refine aj bq ?_;dsimp only[bR];rw[aI (show z<9223372036854775808 from c)];refine aj bq ?_;dsimp only[bI];grind [cF]
theorem G2 (p:aX d) (q:d.length<=100000000):m2 (d,())=Y (iT d,()):=by
 unfold m2;refine bQ.1 ?_;refine ah.aJ (P:=λh=>∃a:X,h.1=(a:Z)/\a<=d.length/\(∀b,a<=b->(k:b<d.length)->d[b]=0)/\fd (d.take a)) ?_ ?_
 ·refine als (λe=>∃a:X,e.1=(a:Z)/\a<=d.length/\(∀b,a<=b->(k:b<d.length)->d[b]=0)) (λe=>e.1.toNat) ⟨d.length,bq,bg _,λb f g=>by omega⟩ ?_;rintro⟨_,_⟩ ⟨a,rfl,f,g⟩;rcases a with _|a
  ·refine bu.2 ⟨0,bq,dj _,g,λm l=>by grind⟩
  have ax:az (((a+1:X):Z)-1)=(a:Z):=(by grind [cF]);have j:bz (((a+1:X):Z)>0)=bt:=aI aa;simp only[ax,j,alC,bI,eP (show a<d.length from f),aF];by_cases i:d[a]=0
  ·rw[gp,aI i];grind [cq,bu]
  rw[gp,aD i];refine bu.2 ⟨a+1,bq,f,g,λm l=>?_⟩;grind
 rintro⟨_,_⟩ ⟨a,rfl,f,g,n⟩;dsimp only;refine ah.aJ (P:=λh=>h=(d.take a,())) ?_ ?_
 ·refine ah.steps a (λc e=>e=((c:Z),d.take c,())) rfl ?_ ?_
  ·rintro c _ o rfl;simp only[aI (aa:(c:Z)<(a:Z)),bI,eP (aa:c<d.length),aF];grind [ct,bV,bu,c9,a9]
  rintro _ rfl;simp_all [bu,aD,bR]
 grind [bu,T6]
theorem Cq (c:aX d) (e:d.length<=100000000):mB (h,d,())=Y (aY (hJ (h,d,())),()):=by
 unfold mB;refine aj (G2 c e) ?_;have a:=OS (neg:=h) (Mi d) (T5 d);have b:hJ (h,iT d,())=hJ (h,d,()):=(by grind [Mj,hJ]);rw[<-b,<-a];dsimp only;cases h
 ·simp
 simp_all [alC,bI,Bool.true_and,cy,a7,zS]
theorem ur (a:aX d) (c:d.length<=100000000) (e:ak d=b):mB (h,d,())=Y (aY (if h then-b else b),()):=by grind [Cq,hJ]
theorem uu {l:ak7} (a:aX l) (b:fd l) (d:l.length<=1000000):m2 (l,())=Y (l,()):=by have c:=amO a b;rw[G2 a aa];show Y (e2 (ak l).toNat,())=_;grind
def SV {a:p3} (b:aX a.2.1) (c:a.2.1.length<=100000000):qE (a,())=Y (aY (hJ a),()):=by unfold qE;exact aj (Cq b c) rfl
def zf (a:aV b.natAbs<=3000000):qE (aY b,())=Y (aY b,()):=by rw[SV (m3 b) (by have:=(ik a).2.2;omega),pg]
theorem SU (a:aV b.natAbs<=3000000):AW (aY b,())=Y (aY (-b),()):=by unfold AW;refine aj (Cq (m3 b) (by have:=(ik a).2.2;omega)) ?_;grind [pg,Hk]
theorem Ce (a:aV b.natAbs<=3000000):rO (aY b,())=Y (aY b.natAbs,()):=by unfold rO;refine aj (Cq (m3 b) (by have:=(ik a).2.2;omega)) ?_;grind [pg,Uk,m3]
theorem lq {z:Z} (a:aV z.natAbs<=3000000):mA (aY z,())=Y (gI z,()):=by
 unfold mA;refine aj (zf a) ?_;simp only[tX,cW,yw];unfold gI;split
 ·rfl
 show(bif bz (z<0) then _ else _)=_;grind
theorem Cg {z:Z} (d:aV z.natAbs<=3000000):vG (aY z,())=Y ((aV z.natAbs:Z),()):=by obtain⟨a,b,e⟩:=ik d;have c:=P6 a b aa;rw[iQ] at c;unfold AF at c;unfold vG;refine aj (uu a b aa) ?_;grind
theorem S8 (v:aV b.natAbs<=900000) (s:b≠0):rP (aY b,())=Y ((db b.natAbs:Z),()):=by
 obtain⟨e,i,r⟩:=ik (z:=b) aa;unfold rP;refine aj (uu e i aa) ?_;have u:=iQ b;dsimp only;generalize(aY b).2.1=a at*;have m:b.natAbs=(ak a).toNat:=aa;rw[m];refine bQ.1 (ah.aJ (P:=λo=>match o with|.inl _=>b7|.inr p=>p=((db (ak a).toNat:Z),())) ?_ ?_)
 ·refine ah.steps a.length (λc q=>q=((c:Z),())/\ak (a.take c)=0) ⟨bq,bq⟩ ?_ ?_
  ·rintro c _ f ⟨rfl,j⟩;have h:=e.get f;simp only[aI (ae:(c:Z)<ar a),bI,eP f,aF,fJ];by_cases d:a[c]=0
   ·simp only[aI d,g7,bR];grind [iU,bu,a9]
   simp only[aD d,mP,bI];have k:=Ud (x:=0) j f e d;rw[k];obtain⟨g,l⟩:=gB h.1;rw[l] at h d|-;have t:db g<32:=jG (w1 aa) (fZ.2 aa);refine ah.of_eq (aj (Uc (n:=g) aa aa) rfl) ?_;grind [cF]
  grind
 grind [bu]
theorem Sr {n:X} (c:n<=1000000000):∃b a:X,n=32*b+a/\a<32/\kT bO (n:Z) 32=Y (b:Z)/\jq (n:Z) 32=Y (a:Z):=by
 refine⟨n/32,n %32,aa,aa,?_,?_⟩
 ·unfold kT;rw[aB ab,Hw aa,cx aa aa];simp
 simp_all [aB,Hx,jq]
theorem LL {n:X} (u:aX d) (I:d.length<=10000000) (E:n<=100000000):ah (yi (d,(n:Z),())) (λl=>∃a,l=(a,())/\aX a/\ak a=ak d*2^n/\a.length=n/32+d.length+1):=by
 unfold yi;obtain⟨g,b,H,F,v,w⟩:=Sr (n:=n) aa;have j:=kp b;have A:=wH (p:=b) aa;have z:(2:Z)^b<=2147483648:=wI aa;dsimp only;refine ah.bs v (ah.bs (hP aa) ?_);refine ah.aJ (P:=λl=>∃c a,l=(c,a,())/\a.length=g+d.length/\aX a/\0<=c/\c<2^b/\ak a+a2 (g+d.length)*c=a2 g*(2^b*ak d)) ?_ ?_
 ·refine ah.steps d.length (λe y=>∃c a,y=(c,(e:Z),a,())/\a.length=g+e/\aX a/\0<=c/\c<2^b/\ak a+a2 (g+e)*c=a2 g*(2^b*ak (d.take e))) ⟨0,bJ g 0,bq,ac,alR _,aa,j,by simp[ak,p0]⟩ ?_ ?_
  ·rintro e _ m ⟨c,a,rfl,aE,h,i,q,k⟩;have o:=u.get m;simp only[aI (ae:(e:Z)<ar d),bI,eP m,aF,w];have C:d[e]*2^b<4294967296*2^b:=sG o.2 j;have B:d[e]*2^b<=4294967295*2^b:=nR aa aa;have D:0<=d[e]*2^b:=mS o.1 (fu j);obtain⟨f,G,J,K,L⟩:∃f,f=c+d[e]*2^b/\0<=f/\f<18446744073709551616/\f<4294967296*2^b:=⟨_,bq,aa,aa,aa⟩;have r:iz bG (aR d[e]) (b:Z)=Y (d[e]*2^b):=by
    rw[fM (x:=d[e]) aa aa,ou aa aa,gg];congr 1;omega
   have s:gM bG c (d[e]*2^b)=f:=(by grind [nK,anZ]);have t:f/4294967296<2^b:=sE ab aa;rw[r,aF,s,c9 ae,nM,p1];refine bu.2 ⟨f/4294967296,a++[f %4294967296],by rw[a9 aa],ae,h.snoc aa aa,aa,t,?_⟩;grind [uH,amu,q9,iq,iU]
  rintro _ ⟨c,a,rfl,aE,h,i,q,k⟩;simp only[aD (ae:¬((d.length:Z)<ar d)),bR];rw[fD (bg _)] at k;grind [bu]
 rintro _ ⟨c,a,rfl,aE,h,i,q,k⟩;dsimp only;rw[lV i aa,c9 ae];refine bu.2 ⟨a++[c],bq,h.snoc i aa,?_,ae⟩;grind [q9,re,aqd]
theorem SA (g:aX d) (h:aX f) (o:fd d) (p:fd f) (t:d.length<=10000000) (u:f.length<=10000000):AX (d,f,())=Y (fo (ak d) (ak f),()):=by
 unfold AX;refine bQ.1 ?_;simp only[fJ,a7];by_cases s:d.length=f.length
 ·rw[aI (aa:(d.length:Z)=f.length)];simp only[g7,bR];refine ah.aJ (P:=λl=>match l with|.inl _=>ak d=ak f|.inr m=>m=(fo (ak d) (ak f),())) ?_ ?_
  ·refine ah.steps d.length (λb n=>n=(((d.length:X):Z)-1-b,())/\ak (d.drop (d.length-b))=ak (f.drop (d.length-b))) ⟨?_,?_⟩ ?_ ?_
   ·grind [cF]
   ·rw[oC aa,oC aa]
   ·rintro b _ q ⟨rfl,e⟩;obtain⟨a,r⟩:∃a,d.length=a+1+b:=⟨d.length-1-b,aa⟩;have ax:((d.length:X):Z)-1-(b:Z)=(a:Z):=aa;have i:a<d.length:=aa;have j:a<f.length:=aa;rw[(aa:d.length-b=a+1)] at e;simp only[ax,aI (aa:(a:Z)>=0),bI,eP i,eP j,aF];by_cases k:d[a]=f[a]
    ·simp only[aI k,g7,bR];grind [nk,cF,bu]
    simp only[aD k,mP,bI];rw[cW];refine ah.ite (λc=>?_) λc=>?_
    ·refine bu.2 ?_;show((-1:Z),())=_;unfold fo;rw[aB (Hl g h i j e c)]
    refine bu.2 ?_;show((1:Z),())=_;have:=Hl h g j i e.symm aa;grind [fo]
   rintro _ ⟨rfl,e⟩;have ax:¬(((d.length:X):Z)-1-(d.length:Z)>=0):=aa;simp_all [bu,aD,bR]
  grind [bu,fo,ak]
 rw[aD (aa:¬(d.length:Z)=f.length)];simp only[mP,bI];rw[cW];unfold fo;refine ah.ite (λc=>bu.2 ?_) λc=>bu.2 ?_
 ·rw[aB (q8 g h p aa)]
 have:=q8 h g o aa;grind
theorem ZJ (j:aX d) (v:k<32) (u:c+a<d.length) (t:b=ak (d.drop c)):b/2^k/a2 a %4294967296=(d[c+a]+4294967296*d.getD (c+a+1) 0)/2^k %4294967296:=by
 have q:=kp k;have s:=wH (p:=k) aa;have r:b/a2 a=(d[c+a]+4294967296*d.getD (c+a+1) 0)+4294967296*(4294967296*ak (d.drop (c+a+2))):=by
  have h:d.drop c=(d.drop c).take a++d.drop (c+a):=(by grind [amV,amC]);have g:b=ak ((d.drop c).take a)+a2 a*ak (d.drop (c+a)):=(by grind [mM,alj,aoF,amt]);have m:=ff ((j.drop c).take a);have i:=ho ((j.drop c).take a);rw[gu,nS,h5 aa] at i;have n:ak (d.drop (c+a))=d[c+a]+4294967296*ak (d.drop (c+a+1)):=nk aa;have o:ak (d.drop (c+a+1))=d.getD (c+a+1) 0+4294967296*ak (d.drop (c+a+2)):=by
   rcases cY (c+a+1) d.length with f|f
   ·grind [nk,jL]
   rw[pN f,oC f,oC aa];rfl
  rw[g,xg _ _ aa,p5 m i,n,o];grind
 have h:b/2^k/a2 a=b/a2 a/2^k:=(by rw[uM (fu q),uM (fu (gm a)),lu]);rw[h,r];generalize d[c+a]+4294967296*d.getD (c+a+1) 0=l;have g:∀e:Z,l+4294967296*(4294967296*e)=l+2^k*(4294967296*(2^(32-k)*e)):=λe=>ae;rw[g,xg _ _ aa,zL]
theorem ZR (e:aX d) (l:c<32) (j:a<d.length):(bz (ak d %(a2 a*2^c)≠0))=(bz (ak (d.take a)≠0)||bz (d[a] %2^c≠0)):=by have h:=kp c;have k:=wH (p:=c) aa;have i:=ff (e.take a);have f:=ho (e.take a);rw[gu,h5 aa] at f;have g:=Ql (x:=ak (d.take a)) (b:=a2 a) (y:=ak (d.drop a)) (P:=2^c) (P':=0) (gm a) ⟨i,f⟩ h;rw[<-ph d a aa] at g;simp_all [nk,kK,zL,ak]
theorem LM {a:ak7} {n:X} (f:aX a) (bl:a.length<=10000000) (a0:n<=1000000000):ah (yj (a,(n:Z),())) (λh=>∃e,h=(e,bz (ak a %2^n≠0),())/\aX e/\ak e=ak a/2^n/\e.length<=a.length):=by
 unfold yj;obtain⟨b,d,R,C,o,O⟩:=Sr (n:=n) aa;have y:=kp d;have am:=wH (p:=d) aa;have V:(2:Z)^d<=2147483648:=wI aa;have K:(2:Z)^n=a2 b*2^d:=(by rw[re,R,aqd]);have E:=ff f;dsimp only;refine ah.aJ (P:=λh=>h=(bz (ak (a.take b)≠0),())) ?_ ?_
 ·have a4:∀c,min b a.length=c->bz (ak (a.take b)≠0)=bz (ak (a.take c)≠0):=λc s=>by
   grind
  refine ah.steps (min b a.length) (λc m=>m=(bz (ak (a.take c)≠0),(c:Z),())) (by simp[ak]) ?_ ?_
  ·rintro c _ s rfl;have q:=f.get (n:=c) aa;simp only[o,aF,aI (aa:(c:Z)<(b:Z)),alC,bI,aI (ae:(c:Z)<ar a),eP (aa:c<a.length),a9 (aa:c<9223372036854775807),fJ];have v:ak (a.take (c+1))=ak (a.take c)+a2 c*a[c]:=iU aa;have ad:=ff (f.take c);have w:=gm c;by_cases i:ak (a.take c)=0
   ·rw[aD (show¬(ak (a.take c)≠0) fromλk=>k i)];refine bu.2 ?_;show((!bz (a[c]=0)),_,())=_;congr 1;rw[v,i];by_cases U:a[c]=0
    ·grind
    have:=p7 w (aa:0<a[c]);grind
   rw[aI (show ak (a.take c)≠0 from i)];refine bu.2 ?_;show(bt,_,())=_;congr 1;have:=mS (fu w) q.1;grind
  rintro _ rfl;simp only[o,aF];by_cases i:min b a.length<b
  ·simp only[aI (aa:((min b a.length:X):Z)<(b:Z)),alC,bI,aD (ae:¬(((min b a.length:X):Z)<ar a)),bR,aF];grind [bu]
  simp only[aD (aa:¬(((min b a.length:X):Z)<(b:Z))),show(br==bt)=br from rfl,bR,aF];grind [bu]
 rintro _ rfl;dsimp only;refine ah.bs O (ah.bs o ?_);rw[K];rcases cq b a.length with k|k
 ·obtain⟨g,z⟩:∃g,g=ak (a.drop b):=⟨_,bq⟩;have A:0<=g:=(by rw[z];exact ff (f.drop b));have Q:ak a=ak (a.take b)+a2 b*g:=(by grind [ph]);have N:=ff (f.take b);have B:=ho (f.take b);rw[gu,h5 aa] at B;have an:ak a/(a2 b*2^d)=g/2^d:=by
   rw[<-uM (fu (gm b)),Q,xg _ _ aa,p5 N B,amv]
  obtain⟨l,av⟩:∃l,a.length=b+l:=⟨a.length-b,aa⟩;have ap:g<a2 l:=(by have:=ho (f.drop b);grind);have J:=ZR f C k;refine ah.aJ (P:=λh=>∃e,h=(bz (ak a %(a2 b*2^d)≠0),e,())/\e.length=l/\aX e/\ak e=g/2^d) ?_ ?_
  ·refine ah.steps l (λc m=>∃e,m=(if c=0 then bz (ak (a.take b)≠0) else bz (ak a %(a2 b*2^d)≠0),((b+c:X):Z),e,())/\e.length=c/\aX e/\ak e+a2 c*(g/2^d/a2 c)=g/2^d) ⟨[],bq,bq,alQ,by simp[ak,zE]⟩ ?_ ?_
   ·rintro c _ s ⟨e,rfl,aE,t,F⟩;have q:=f.get (n:=b+c) aa;have S:=f.getD (b+c+1);obtain⟨j,D,T,bx⟩:∃j,j=a[b+c]+4294967296*a.getD (b+c+1) 0/\0<=j/\j<18446744073709551616:=⟨_,bq,aa,aa⟩;have L:g/2^d/a2 c %4294967296=j/2^d %4294967296:=(by rw[D];exact ZJ f C aa z);have a3:0<=j/2^d:=al4 T (aln y);have G:aO ((b+c:X):Z)=((b+c+1:X):Z):=a9 aa;dsimp only;rw[aS (aI (ae:((b+c:X):Z)<ar a))];refine ah.aJ (P:=λh=>h=(bz (ak a %(a2 b*2^d)≠0),e++[j/2^d %4294967296],())) ?_ ?_
    ·refine ah.bs (eP aa) ?_;refine ah.aJ (P:=λh=>h=(j,e,())) ?_ ?_
     ·rw[G,cW];refine ah.ite (λi=>?_) λi=>?_
      ·have i:b+c+1<a.length:=ae;rw[eP i,aF,fM (x:=a[b+c+1]) ae ae,ou ab ab];rw[jL i] at D S;have H:a[b+c+1]*2^(32:Z).toNat %18446744073709551616=4294967296*a[b+c+1]:=by
        grind
       rw[aF,H,fM aa aa,nK 32 q.1 q.2 aa aa aa aa];grind [bu]
      grind [a7,pN,fM,bu]
     rintro _ rfl;dsimp only;refine ah.aJ (P:=λh=>h=(bz (ak a %(a2 b*2^d)≠0),e,())) ?_ ?_
     ·refine ah.bs o ?_;by_cases M:c=0
      ·subst M;have r:(((b+0:X):Z)==(b:Z))=bt:=ac;rw[r];simp only[alC,bI];refine ah.bs (eP aa) ?_;rw[Tv aa aa,aF,gg,ane,sF aa aa,lV aa aa,Ns d (f.get (n:=b+0) aa).1 (f.get (n:=b+0) aa).2 aa,fJ,J];grind [aD,bu,aI]
      have r:(((b+c:X):Z)==(b:Z))=br:=ae;rw[r];simp only[show(br==bt)=br from rfl,bR];simp_all [aA,bu]
     rintro _ rfl;dsimp only;rw[ux aa aa,bM,alO,c9 ae,p1];grind [bu]
    rintro _ rfl;dsimp only;refine bu.2 ⟨e++[j/2^d %4294967296],ae,ae,t.snoc aa aa,?_⟩;rw[q9,aE,<-L,iq,ame 4294967296 (a2 c),<-ap4 (aln (gm c))];grind
   rintro _ ⟨e,rfl,aE,t,F⟩;dsimp only;rw[aP (aD (ae:¬(((b+l:X):Z)<ar a))),ck aa];refine bu.2 ⟨e,bq,aE,t,?_⟩;have u:0<=g/2^d:=al4 A (aln y);have I:g/2^d<=g:=ank _ A;rw[Int.ediv_eq_zero_of_lt u aa] at F;omega
  grind [bu]
 have u:=ho f;have I:=pV k;have v:a2 b*1<=a2 b*2^d:=j2 aa (fu (gm b));rw[p5 E aa,sF E aa,fD k];refine ah.aJ (P:=λh=>h=(bz (ak a≠0),[],())) ?_ ?_
 ·refine ah.steps 0 (λc m=>m=(bz (ak a≠0),(b:Z),[],())) rfl (λc m s=>by omega) ?_;rintro _ rfl;simp_all [bu,aP,aD,ar]
 rintro _ rfl;exact bu.2 ⟨[],bq,alQ,bq,ac⟩
theorem aeK (o:aX d) (p:aX f) (y:d.length<=10000000) (z:f.length<=10000000):ah (EP (d,f,())) (λh=>∃a,h=(a,())/\aX a/\ak a=ak d+ak f/\a.length<=d.length+f.length+1):=by
 unfold EP;dsimp only;obtain⟨g,u⟩:∃g,g=max d.length f.length:=⟨_,bq⟩;have q:(if ar f>ar d then ar f else ar d)=(g:Z):=ae;rw[q];refine ah.aJ (P:=λh=>∃b a,h=(b,a,())/\a.length=g/\aX a/\0<=b/\b<=1/\ak a+a2 g*b=ak d+ak f) ?_ ?_
 ·refine ah.steps g (λc r=>∃b a,r=(b,(c:Z),a,())/\a.length=c/\aX a/\0<=b/\b<=1/\ak a+a2 c*b=ak (d.take c)+ak (f.take c)) ⟨0,[],bq,bq,alQ,aa,aa,by simp[ak]⟩ ?_ ?_
  ·rintro c _ t ⟨b,a,rfl,l,i,j,m,n⟩;have w:=o.getD c;have x:=p.getD c;obtain⟨e,v,A,B,s⟩:∃e,e=b+d.getD c 0+f.getD c 0/\0<=e/\e<18446744073709551616/\e/4294967296<=1:=⟨_,bq,aa,aa,aa⟩;dsimp only;rw[aS (aI (aa:(c:Z)<(g:Z)))];refine ah.aJ (P:=λh=>h=(e/4294967296,a++[e %4294967296],())) ?_ ?_
   ·refine ah.aJ (P:=λh=>h=(b+d.getD c 0,a,())) ?_ ?_
    ·simp only[cW];refine ah.ite (λk=>?_) λk=>?_
     ·grind [fM,bu,jL,eP,a7]
     simp_all [pN,ana,bu]
    rintro _ rfl;refine ah.aJ (P:=λh=>h=(e,a,())) ?_ ?_
    ·simp only[cW];refine ah.ite (λk=>?_) λk=>?_
     ·grind [fM,bu,jL,eP,a7]
     simp_all [pN,ana,bu]
    grind [c9,p1,nM,bu]
   rintro _ rfl;dsimp only;refine bu.2 ⟨e/4294967296,a++[e %4294967296],by rw[a9 aa],ae,i.snoc aa aa,aa,s,?_⟩;rw[q9,l,iq,zx,zx];grind
  rintro _ ⟨b,a,rfl,l,i,j,m,n⟩;dsimp only;rw[aP (aD (aa:¬((g:Z)<(g:Z))))];grind [bu,cj]
 rintro _ ⟨b,a,rfl,l,i,j,m,n⟩;dsimp only;rw[c9 ae,lV j aa];refine bu.2 ⟨a++[b],bq,i.snoc j aa,?_,ae⟩;grind [q9]
theorem Tw (a:Z):eT .u64 a 63=Y (a/9223372036854775808):=by have:eT .u64 a 63=Y (a.fdiv 9223372036854775808):=rfl;grind
theorem S7 (o:aX d) (p:aX f) (A:d.length<=10000000) (w:f.length<=d.length) (x:ak f<=ak d):ah (AY (d,f,())) (λg=>∃a,g=(a,())/\aX a/\ak a=ak d-ak f/\a.length=d.length):=by
 unfold AY;dsimp only;refine ah.aJ (P:=λg=>∃a b,g=(a,())/\a.length=d.length/\aX a/\0<=b/\b<=1/\ak a-a2 d.length*b=ak d-ak f) ?_ ?_
 ·refine ah.steps d.length (λc q=>∃b a,q=(b,(c:Z),a,())/\a.length=c/\aX a/\0<=b/\b<=1/\ak a-a2 c*b=ak (d.take c)-ak (f.take c)) ⟨0,[],bq,bq,alQ,aa,aa,by simp[ak]⟩ ?_ ?_
  ·rintro c _ l ⟨b,a,rfl,h,i,j,k,m⟩;have y:=o.get l;have z:=p.getD c;obtain⟨e,v,r,s⟩:∃e,e=d[c]-b-f.getD c 0/\-4294967296<=e/\e<4294967296:=⟨_,bq,aa,aa⟩;dsimp only;rw[aS (aI (ae:(c:Z)<ar d))];refine ah.aJ (P:=λg=>g=(-(e/4294967296),a++[e %4294967296],())) ?_ ?_
   ·refine ah.bs (eP l) ?_;refine ah.aJ (P:=λg=>g=(e %18446744073709551616,a,())) ?_ ?_
    ·simp_all [a7,pN,bu,sy,eP,jL,ah.ite,cW]
    grind [c9,p1,Tw,bu]
   rintro _ rfl;dsimp only;refine bu.2 ⟨-(e/4294967296),a++[e %4294967296],by rw[a9 aa],ae,i.snoc aa aa,aa,aa,?_⟩;rw[q9,h,iq,iU l,zx];grind
  rintro _ ⟨b,a,rfl,h,i,j,k,m⟩;dsimp only;rw[aP (aD (ae:¬((d.length:Z)<ar d)))];refine bu.2 ⟨a,b,bq,h,i,j,k,?_⟩;simp_all [cj,cc]
 rintro _ ⟨a,b,rfl,h,i,j,k,m⟩;have n:=ho i;have t:=gm d.length;rw[h] at n;have u:b=0:=ae;grind [bu]
theorem afs (y:aX f) (q:a<f.length) (z:aX d) (L:a+d.length<c) (J:c<=100000000) (w:g.length=c) (x:aX g) (C:ji g (a+d.length)) {p:jh->Prop} (K:∀h b,b.length=c->aX b->ji b (a+d.length)->0<=h->h<4294967296->ak b+a2 (a+d.length)*h=ak g+a2 a*(f[a]*ak d)->p (h,b,())):ah (loop (σ:=qq) (ρ:=jh) (λ(k,j,m,_)=>
 bif bz (j<ar d) then
 (aq f (a:Z)).bind λu=>
 (aq d j).bind λs=>
 rd m (az ((a:Z)+j)) λt=>
 wr m (az ((a:Z)+j)) (eD (aR (aR (k+aR (aR u*aR s))+aR t))) λI=>
 (eT bG (aR (aR (k+aR (aR u*aR s))+aR t)) 32).bind λH=>
 Y (.inl (H,aO j,I,())) else
 Y (.inr (k,m,()))) (0,0,g,())) p:=by
 refine ah.steps d.length (λe G=>∃h b,G=(h,(e:Z),b,())/\b.length=c/\aX b/\ji b (a+d.length)/\0<=h/\h<4294967296/\ak b+a2 (a+e)*h=ak g+a2 a*(f[a]*ak (d.take e))) ⟨0,g,bq,w,x,C,aa,aa,by simp[ak]⟩ ?_ ?_
 ·rintro e _ l ⟨h,b,rfl,aE,o,r,D,E,F⟩;have A:=y.get q;have B:=z.get l;have N:=o.get (n:=a+e) aa;have M:=BS A B;obtain⟨i,O,P,Q⟩:∃i,i=h+f[a]*d[e]+b[a+e]/\0<=i/\i<18446744073709551616:=⟨_,bq,aa,aa⟩;simp only[aI (ae:(e:Z)<ar d),bI,eP l,eP q,aF];have ax:az ((a:Z)+(e:Z))=((a+e:X):Z):=(by grind [cF]);rw[ax,jM aa];have v:aR (aR (h+aR (aR f[a]*aR d[e]))+aR b[a+e])=i:=by
   grind [fM]
  rw[v,p1,lX aa,nM];refine bu.2 ⟨i/4294967296,b.set (a+e) (i %4294967296),by rw[a9 aa],ae,o.set aa aa,r.LX _ aa,aa,aa,?_⟩;rw[nl aa,(aa:a+(e+1)=(a+e)+1),iq,iU l];grind [uH,amu]
 rintro _ ⟨h,b,rfl,aE,o,r,D,E,F⟩;simp_all [fD,bg,bu,aD,a7,bR,ar]
theorem afi (s:aX f) (t:aX d) (v:f.length<=10000000) (w:d.length<=10000000):ah (ER (f,d,())) (λg=>∃a,g=(a,())/\aX a/\ak a=ak f*ak d/\a.length=f.length+d.length):=by
 unfold ER;dsimp only;have r:az (ar f+ar d)=((f.length+d.length:X):Z):=(by grind [cF,a7]);rw[r,hP aa,bM];refine ah.aJ (P:=λg=>∃a,g=(a,())/\a.length=f.length+d.length/\aX a/\ak a=ak f*ak d) ?_ ?_
 ·refine ah.steps f.length (λb u=>∃a,u=((b:Z),a,())/\a.length=f.length+d.length/\aX a/\ji a (b+d.length)/\ak a=ak (f.take b)*ak d) ⟨_,bq,ac,alR _,ji.mg _ _,by simp[ak,p0]⟩ ?_ ?_
  ·rintro b _ m ⟨a,rfl,aE,o,p,q⟩;dsimp only;rw[aS (aI (ae:(b:Z)<ar f))];refine ah.aJ (P:=λg=>∃e c,g=(e,c,())/\c.length=f.length+d.length/\aX c/\ji c (b+d.length)/\0<=e/\e<4294967296/\ak c+a2 (b+d.length)*e=ak a+a2 b*(f[b]*ak d)) (afs s m t aa aa aE o p λe c n k h i j l=>⟨e,c,bq,n,k,h,i,j,l⟩) ?_;rintro _ ⟨e,c,rfl,n,k,h,i,j,l⟩;have ax:az ((b:Z)+ar d)=((b+d.length:X):Z):=(by grind [cF,a7]);dsimp only;rw[ax,lV i j,lX aa];refine bu.2 ⟨c.set (b+d.length) e,by rw[a9 aa],ae,k.set i j,?_,?_⟩
   ·rw[(aa:b+1+d.length=b+d.length+1)];exact h.set _
   rw[nl aa,h _ (bg _) aa,iU m,anX,l,q];grind
  rintro _ ⟨a,rfl,aE,o,p,q⟩;dsimp only;rw[aP (aD (ae:¬((f.length:Z)<ar f)))];grind [bu]
 grind [bu]
section
section
variable {α B:Type}
theorem LA {d c e:bp α} {k:X} (g:k<c.length) (f:b=((d.length+k:X):Z)) (a:α->bA B):rd (d++(c++e)) b a=a c[k]:=by subst f;refine aeY aa ?_ a;grind
def ahf {a c d:bp α} {k:X} (g:k<c.length) (h:b=((a.length+k:X):Z)) (f:α) (e:bp α->bA B):wr (a++(c++d)) b f e=e (a++(c.set k f++d)):=by subst h;rw[lX ae,Cz g]
end
theorem agw {A w C v:ak7} {g:Z} (u:aX v) (x:aX w) (V:w.length=v.length+1) (O:A.length+w.length<=100000000) (H:0<=g/\g<4294967296):ah (AZ (A++(w++C),v,(A.length:Z),g,())) (λd=>(ak w<g*ak v/\d=(A++(w++C),br,()))\/(∃l,g*ak v<=ak w/\d=(A++(l++C),bt,())/\l.length=w.length/\aX l/\ak l=ak w-g*ak v)):=by
 unfold AZ;dsimp only;have y:aO (ar v)=((v.length+1:X):Z):=(by grind [a9,a7]);rw[y,hP aa,bM];have R:=ff u;have Q:=ff x;refine ah.aJ (P:=λd=>∃c b,d=(c,A++(w++C),b,())/\b.length=v.length+1/\aX b/\0<=c/\c<=1/\ak b-a2 (v.length+1)*c=ak w-g*ak v) ?_ ?_
 ·refine ah.steps (v.length+1) (λa p=>∃c h b,p=(c,h,(a:Z),A++(w++C),b,())/\b.length=v.length+1/\aX b/\ji b a/\0<=h/\h<4294967296/\(a=v.length+1->h=0)/\0<=c/\c<=1/\ak b-a2 a*(c+h)=ak (w.take a)-g*ak (v.take a)) ⟨0,0,bJ (v.length+1) 0,bq,ac,alR _,ji.mg _ _,aa,aa,λ_=>rfl,aa,aa,by simp[ak,p0]⟩ ?_ ?_
  ·rintro a _ I ⟨c,h,b,rfl,m,i,j,q,o,r,D,E,s⟩;have L:=u.getD a;have ad:=x.get (n:=a) aa;have U:=BS H L;obtain⟨f,K,am,an⟩:∃f,f=h+g*v.getD a 0/\0<=f/\f<18446744073709551616:=⟨_,bq,aa,aa⟩;obtain⟨e,S,M,N⟩:∃e,e=w[a]-c-f %4294967296/\-4294967296<=e/\e<4294967296:=⟨_,bq,aa,aa⟩;dsimp only;rw[aS (aI (ae:(a:Z)<=ar v))];refine ah.aJ (P:=λd=>d=(-(e/4294967296),f/4294967296,A++(w++C),b.set a (e %4294967296),())) ?_ ?_
   ·refine ah.aJ (P:=λd=>d=(f,A++(w++C),b,())) ?_ ?_
    ·rw[cW];refine ah.ite (λB=>?_) λB=>?_
     ·grind [fM,bu,jL,eP,a7]
     grind [a7,pN,bu]
    rintro _ rfl;dsimp only;have ax:az ((a:Z)+(A.length:Z))=((A.length+a:X):Z):=(by grind [cF]);have z:aR (aR (aR w[a]-c)-e3 bG f 4294967295)=e %18446744073709551616:=(by grind [and_low32,sy]);rw[LA (k:=a) aa ax,nM,bM,z,lX aa,Tw,bM,p1];refine bu.2 ?_;grind
   rintro _ rfl;dsimp only;refine bu.2 ⟨-(e/4294967296),f/4294967296,b.set a (e %4294967296),by rw[a9 aa],ae,i.set aa aa,j.set _,aa,aa,?_,aa,aa,?_⟩
   ·grind
   rw[nl aa,j a (bg _) aa,iq,iU (aa:a<w.length),zx];grind
  rintro _ ⟨c,h,b,rfl,m,i,j,q,o,r,D,E,s⟩;dsimp only;rw[aP (aD (ae:¬(((v.length+1:X):Z)<=ar v)))];have G:=r bq;subst G;rw[cj aa,cj aa,ana] at s;grind [bu]
 rintro _ ⟨c,b,rfl,m,i,j,q,o⟩;have J:=ho i;have T:=ff i;have K:=gm (v.length+1);rw[m] at J;dsimp only;rw[fJ];by_cases t:c=0
 ·rw[aI t];subst t;rw[anc] at o;refine ah.aJ (P:=λd=>d=(A++(b++C),())) ?_ ?_
  ·refine ah.steps (v.length+1) (λa p=>p=((a:Z),A++((b.take a++w.drop a)++C),b,())) rfl ?_ ?_
   ·rintro a _ I rfl;have ax:az ((a:Z)+(A.length:Z))=((A.length+a:X):Z):=(by grind [cF]);dsimp only;rw[aS (aI (ae:(a:Z)<=ar v)),jM aa,ahf (k:=a) ae ax,a9 aa];refine bu.2 ?_;show(_,A++(List.set (b.take a++w.drop a) a b[a]++C),b,())=(_,A++((b.take (a+1)++w.drop (a+1))++C),b,());congr 4;have F:b.take (a+1)=b.take a++[b[a]]:=ag;rw[an0 _ _ ae,F,alj,amt aa,Nat.sub_self,anQ (aa:a<w.length),List.set_cons_zero,alG];rfl
   rintro _ rfl;dsimp only;rw[aP (aD (ae:¬(((v.length+1:X):Z)<=ar v)))];grind [cj,aoZ,bu]
  grind [bu]
 grind [aD,bu]
theorem aeZ {n:X} (D:aX d) (cs:ak d=b) (id:d.length=n+1) (f9:b<a2 (n+1)) (gc:1<=d[n]) (dg:aX f) (f8:ak f=e) (co:f.length=c) (hs:c=a+(n+1)) (f6:c<=10000000) (hv:1<=a) (c2:ak (f.drop a)<b) (s:ak7) (ge:s.length=n+1) {J:j9->Prop} (f7:∀l j,l.length=a->aX l->j.length=c->aX j->ak j+b*ak l=e->ak j<b->J (j,l,())):ah (loop (σ:=(Z×bj×bj×bw)) (ρ:=j9) (λ(t,E,U,_)=>
 bif bz (t>=0) then
 rd E (az (t+ar s)) λfr=>
 (iz bG (aR fr) 32).bind λfs=>
 rd E (az (az (t+ar s)-1)) λft=>
 (aq d (az (ar s-1))).bind λfz=>
 (kT bG (gM bG fs (aR ft)) (aR fz)).bind λan=>
 (loop (σ:=(Z×bj×bj×bw)) (ρ:=(Z×bj×bj×bw)) (λ(F,fl,V,_)=>
 (AZ (fl,d,t,F,())).bind λ(R,ek,_)=>
  bif !ek then
 Y (.inl (aR (F-1),R,V,())) else
 Y (.inr (F,R,V,()))) ((if 4294967295<an then 4294967295 else an),E,U,())).bind λ(a3,fn,d8,_)=>
 wr d8 t (eD a3) λfT=>
 Y (.inl (az (t-1),fn,fT,())) else
 Y (.inr (E,U,()))) (((a:Z)-1),f,bJ a (0:Z),())) J:=by
 have ii:ak d=ak (d.take n)+a2 n*d[n]:=(by grind [iU,cj]);have ic:=ff (D.take n);have ds:=ho (D.take n);rw[gu,h5 aa] at ds;have d0:=D.get (n:=n) aa;have G:0<b:=(by have:=p7 (gm n) (aa:0<d[n]);omega);refine ah.steps a (λq z=>∃l j,z=(((a:X):Z)-1-q,j,l,())/\l.length=a/\aX l/\(∀i,i<a-q->(c1:i<l.length)->l[i]=0)/\j.length=c/\aX j/\ak j+b*ak l=e/\ak (j.drop (a-q))<b) ⟨bJ a 0,f,ac,ac,alR _,ac,co,dg,by grind [p0],c2⟩ ?_ ?_
 ·rintro q _ hc ⟨l,j,rfl,aE,S,T,ex,B,a4,K⟩;obtain⟨i,c1⟩:∃i,a=i+1+q:=⟨a-1-q,aa⟩;have ax:((a:X):Z)-1-(q:Z)=(i:Z):=aa;rw[(aa:a-q=i+1)] at K;obtain⟨p,bl⟩:∃p,p=j.take i:=⟨_,bq⟩;obtain⟨h,N⟩:∃h,h=(j.drop i).take (n+2):=⟨_,bq⟩;obtain⟨m,bx⟩:∃m,m=j.drop (i+(n+2)):=⟨_,bq⟩;have L:p.length=i:=ae;have io:h.length=n+2:=(by rw[N,gu,nS];omega);have dl:j=p++(h++m):=by
   grind [amV,amC]
  have f4:m.length=c-(i+(n+2)):=ae;have d7:aX p:=(by rw[bl];exact B.take i);have u:aX h:=(by rw[N];exact(B.drop i).take _);have Q:aX m:=(by rw[bx];exact B.drop _);have gf:ak (j.drop i)=ak h+a2 (n+2)*ak m:=(by grind [List.drop_of_length_le,mM]);have gi:ak (j.drop i)=j[i]+4294967296*ak (j.drop (i+1)):=nk aa;have is:=B.get (n:=i) aa;have ce:=ff Q;have f5:0<=a2 (n+2)*ak m:=mS (fu (gm _)) ce;have hr:ak (j.drop i)<4294967296*b:=aa;have d1:=ff u;have ci:ak m=0:=by
   rcases jB 0 (ak m) with o|o
   ·exfalso;have:=j2 (aa:1<=ak m) (fu (gm (n+2)));grind [iq]
   omega
  have H:0<=ak h/b:=al4 d1 aa;have M:ak h/b<4294967296:=ap7 G aa;have gl:=amu (ak h) b;have hw:=ang (ak h) G;have ib:=ani (ak h) (aa:b≠0);have O:=u.get (n:=n+1) aa;have d2:=u.get (n:=n) aa;have i1:az ((i:Z)+ar s)=((p.length+(n+1):X):Z):=(by simp only[a7];rw[cF aa aa];omega);have d3:az (az ((i:Z)+ar s)-1)=((p.length+n:X):Z):=(by rw[i1,cF aa aa];omega);have d4:az (ar s-1)=((n:X):Z):=(by simp only[a7];rw[cF aa aa];omega);obtain⟨el,em⟩:=Hg (x:=h[n+1]) (y:=h[n]) O d2;obtain⟨eq,i0⟩:=GP (x:=4294967296*h[n+1]+h[n]) (y:=d[n]) ⟨aa,aa⟩ aa;have gt:ak h/b<=(4294967296*h[n+1]+h[n])/d[n]:=(by rw[an1 aa];have f0:ak h=ak (h.take n)+a2 n*(4294967296*h[n+1]+h[n]):=(by grind [Hm]);have ap:=ho (u.take n);rw[alj,amt aa] at ap;have f1:a2 n*(ak h/b*d[n])<=ak h:=(by have f2:ak h/b*(a2 n*d[n])<=ak h/b*b:=an2 aa H;grind);have av:a2 n*(ak h/b*d[n])<a2 n*(4294967296*h[n+1]+h[n]+1):=ae;have:=anj av (aln (gm n));omega);dsimp only;rw[ax,aS (aI (aa:(i:Z)>=0))]
  conv=>arg 1;rw[dl]
  rw[LA (k:=n+1) aa i1];refine ah.bs (by rw[fM O.1 aa];exact el) ?_;rw[LA (k:=n) aa d3];refine ah.bs (by rw[d4];exact eP aa) ?_;refine ah.bs (by rw[em,fM d0.1 aa];exact eq) ?_;refine ah.aJ (P:=λd9=>∃r,d9=(ak h/b,p++(r++m),l,())/\r.length=n+2/\aX r/\ak r=ak h %b) ?_ ?_
  ·have go:0<=(4294967296*h[n+1]+h[n])/d[n]:=mR aa aa;refine als (λz=>∃o,z=(o,p++(h++m),l,())/\ak h/b<=o/\o<4294967296) (λz=>z.1.toNat) ⟨_,bq,aa,aa⟩ ?_;rintro _ ⟨o,rfl,f3,a0⟩;have ad:=agw (A:=p) (w:=h) (C:=m) (v:=d) (g:=o) D u aa aa ⟨aa,a0⟩;rw[L] at ad;refine ah.aJ ad ?_;rintro _ (⟨I,rfl⟩|⟨r,I,rfl,ix,d5,d6⟩)
   ·have gs:ak h/b<o:=by
     grind
    refine bu.2 ⟨⟨o-1,by rw[fM aa aa],aa,aa⟩,?_⟩;show(aR (o-1)).toNat<o.toNat;rw[fM aa aa];omega
   rw[cs] at I d6;have hi:o<=ak h/b:=(an1 G).2 I;have cv:o=ak h/b:=aa;refine bu.2 ⟨r,by rw[cv],aa,d5,?_⟩;grind
  rintro _ ⟨r,rfl,i2,fp,am⟩;dsimp only;rw[lV H M,lX aa];refine bu.2 ⟨l.set i (ak h/b),p++(r++m),?_,ae,S.set H M,?_,by simp;omega,anh.2 ⟨d7,anh.2 ⟨fp,Q⟩⟩,?_,?_⟩
  ·rw[cF aa aa];grind
  ·grind [List.getElem_set_ne]
  ·rw[nl aa,T i aa aa,mM,mM,L,am];grind [OC,mM]
  rw[(aa:a-(q+1)=i),sJ aa,rj aa,iD,mM,ci,am];omega
 rintro _ ⟨l,j,rfl,aE,S,T,ex,B,a4,K⟩;have ax:¬(((a:X):Z)-1-(a:Z)>=0):=aa;simp_all [bu,pt,mm,aD,bR]
end
theorem aaA {n:X} (f:aX d) (j:fd d) (t:d.length=n+1):∃c:X,c<=31/\vB (d[n],())=Y ((c:Z),())/\ak d*2^c<a2 (n+1)/\2147483648*a2 n<=ak d*2^c:=by
 have i:=f.get (n:=n) aa;have m:d[n]≠0:=j _ ae;have o:ak d=ak (d.take n)+a2 n*d[n]:=(by grind [iU,cj]);have p:=ff (f.take n);have h:=ho (f.take n);rw[gu,h5 aa] at h;generalize d[n]=u at*;obtain⟨a,rfl⟩:=gB i.1;have g:0<a:=aa;have r:aV a<=32:=fZ.2 aa;have q:=qv g;obtain⟨k,l⟩:=xL g;obtain⟨b,s⟩:∃b,aV a=b+1:=⟨aV a-1,aa⟩;refine⟨32-aV a,aa,?_,?_,?_⟩
 ·unfold vB;refine aj (Kl (n:=a) aa) ?_;grind [cF]
 ·have ax:ak d<a2 n*2^aV a:=by
   have:a2 n*((a:Z)+1)<=a2 n*2^aV a:=j2 ae (fu (gm _));grind
  have e:ak d*2^(32-aV a)<a2 n*2^aV a*2^(32-aV a):=sG ax (kp _);rw[kK,<-l3,(aa:aV a+(32-aV a)=32)] at e;grind [ame,iq]
 have ax:a2 n*2^b<=ak d:=(by have:a2 n*2^b<=a2 n*(a:Z):=j2 ae (fu (gm _));omega);have e:a2 n*2^b*2^(32-aV a)<=ak d*2^(32-aV a):=nR ax (fu (kp _));rw[kK,<-l3,(aa:b+(32-aV a)=31)] at e;omega
theorem agv (b:aX d) (e:a<=d.length) (f:ak d<a2 a):ak (d.take a)=ak d:=by
 have g:=ph d a e;have h:=ff (b.drop a);have i:=ff (b.take a);rcases jB 0 (ak (d.drop a)) with c|c
 ·exfalso;have:=j2 (aa:1<=ak (d.drop a)) (fu (gm a));omega
 grind
theorem ae0 (l:aX f) (m:aX d) (I:fd f) (w:fd d) (dl:f.length<=1000000) (ds:d.length<=1000000) (co:d≠[]):EQ (f,d,())=Y (e2 (ak f/ak d).toNat,e2 (ak f %ak d).toNat,()):=by
 unfold EQ;refine bQ.1 ?_;have C:=ff l;have O:0<ak d:=(by have:=ff m;grind [anV]);refine ah.bs (SA l m I w aa aa) ?_;dsimp only;rw[cW];refine ah.ite (λs=>?_) λs=>?_
 ·have o:ak f<ak d:=Oc.1 s;refine bu.2 ?_;rw[p5 C o,sF C o];show(([]:ak7),f,())=(e2 0,e2 (ak f).toNat,());rw[Jk,<-amO l I]
 have cs:ak d<=ak f:=Int.not_lt.1 (mt Oc.2 s);obtain⟨b,D⟩:∃b,d.length=b+1:=(by simp_all [zS]);have ax:az (ar d-1)=((b:X):Z):=(by grind [cF,a7]);obtain⟨c,av,a0,a3,d5⟩:=aaA m w D;have cv:b+1<=f.length:=by
  rcases cY f.length (b+1) with j|j
  ·have:=q8 l m w aa;omega
  omega
 have E:=kp c;refine ah.bs (y:=d[b]) (by grind [eP]) (ah.bs a0 ?_);refine ah.aJ (LL l aa (n:=c) aa) ?_;rintro _ ⟨p,rfl,H,G,F⟩;refine ah.aJ (LL m aa (n:=c) aa) ?_;rintro _ ⟨K,rfl,ap,dg,am⟩;rw[(aa:c/32=0),ap8] at F am;have N:ar d=((b+1:X):Z):=ae;dsimp only;refine ah.bs (y:=(0,b+1)) ?_ ?_
 ·rw[N,aF,wv,aF,qN ⟨dj _,aa⟩,aF,Lp aa];rfl
 obtain⟨h,V⟩:∃h,h=(K.take (b+1)).drop 0:=⟨_,bq⟩;have ad:h=K.take (b+1):=ae;have wi:aX h:=(by rw[ad];exact ap.take _);have S:ak h=ak d*2^c:=(by grind [agv]);have an:h.length=b+1:=ae;have U:1<=h[b]:=by
  have u:ak h=ak (h.take b)+a2 b*h[b]:=(by grind [iU,cj]);have k:=ho (wi.take b);rw[gu,h5 aa] at k;have c1:=gm b;rcases jB h[b] 1 with j|j
  ·exfalso;have:h[b]=0:=(by have:=wi.get (n:=b) aa;omega);grind
  omega
 dsimp only;rw[<-V];refine ah.bs (y:=(h,p,())) ?_ ?_
 ·grind
 obtain⟨g,T⟩:∃g,f.length+1=g+(b+1):=⟨f.length+1-(b+1),aa⟩;have M:az (ar f-ar d)=(g:Z)-1:=(by grind [cF,a7]);have a4:aO (az (ar f-ar d))=((g:X):Z):=(by grind [cx]);dsimp only;refine ah.bs (y:=g) (by grind [hP]) ?_;have o:ak (p.drop g)<ak d*2^c:=(by have t:=ph p g aa;have x:=ff (H.take g);rw[G] at t;have u:ak f*2^c<a2 f.length*2^c:=anY (ho l) E;have z:a2 f.length=a2 g*a2 b:=(by grind [uH]);have k:a2 g*ak (p.drop g)<a2 g*(a2 b*2^c):=(by grind [Int.mul_assoc]);have v:=anj k (aln (gm g));have bx:a2 b*2^c<=a2 b*2147483648:=an2 (wI av) (aln (gm _));omega);rw[M];refine ah.aJ (P:=λL=>∃e i,L=(i,e,())/\e.length=g/\aX e/\i.length=f.length+1/\aX i/\ak i+ak d*2^c*ak e=ak f*2^c/\ak i<ak d*2^c) (aeZ wi S an a3 U H G F T aa aa o d D λe i t x u z k v=>⟨e,i,bq,t,x,u,z,k,v⟩) ?_;rintro _ ⟨e,i,rfl,aE,d4,d6,J,k,v⟩;have c2:=ff J;have ce:ak i=2^c*(ak f-ak d*ak e):=ae;have Q:0<=ak f-ak d*ak e:=by
  rcases jB (ak f-ak d*ak e) 0 with j|j
  ·have:=ap9 E j;omega
  omega
 have R:ak f-ak d*ak e<ak d:=(by simp_all [anj,aln,ame,ak]);have ci:ak i/2^c=ak f-ak d*ak e:=(by grind [aqa]);obtain⟨bl,f2⟩:=GQ (A:=ak f) (B:=ak d) (q:=ak e) (r:=ak f-ak d*ak e) O aa Q R;dsimp only;refine ah.bs (G2 J aa) ?_;dsimp only;refine ah.aJ (LM (a:=iT i) (n:=c) (Mi i) (by grind [T4]) aa) ?_;rintro _ ⟨d0,rfl,d1,d2,d3⟩;grind [Mj,ah.bs,G2,bu,T4,iT]
theorem Cf {x y:Z} (n:aV x.natAbs<=3000000) (o:aV y.natAbs<=3000000):qD (aY x,aY y,())=Y (aY (x+y),()):=by
 obtain⟨a,f,r⟩:=ik n;obtain⟨b,g,s⟩:=ik o;unfold qD;dsimp only;refine bQ.1 ?_;refine ah.bs (uu a f aa) (ah.bs (uu b g aa) ?_);dsimp only;have u:=iQ x;have v:=iQ y;have p:(aY x).1=bz (x<0):=rfl;have q:(aY y).1=bz (y<0):=rfl;rw[p,q];by_cases m:(bz (x<0)==bz (y<0))=bt
 ·rw[aS m];refine ah.aJ (aeK a b aa aa) ?_;rintro _ ⟨k,rfl,d,e,l⟩;refine ah.bs (ur d ae e) (bu.2 ?_);grind
 rw[aP ae];have t:¬(x<0↔y<0):=ae;refine ah.bs (SA a b f g aa aa) ?_;dsimp only;rw[cW];refine ah.ite (λh=>?_) λh=>?_
 ·have j:=Dz.1 h;have i:(aY y).2.1.length<=(aY x).2.1.length:=by
   rcases cY (aY x).2.1.length (aY y).2.1.length with c|c
   ·have:=q8 a b g c;omega
   omega
  refine ah.aJ (S7 a b aa i j) ?_;rintro _ ⟨k,rfl,d,e,l⟩;refine ah.bs (ur d ae e) (bu.2 ?_);grind
 have j:ak (aY x).2.1<ak (aY y).2.1:=Int.not_le.1 (mt Dz.2 h);have i:(aY x).2.1.length<=(aY y).2.1.length:=by
  rcases cY (aY y).2.1.length (aY x).2.1.length with c|c
  ·have:=q8 b a f c;omega
  omega
 refine ah.aJ (S7 b a aa i (fu j)) ?_;rintro _ ⟨k,rfl,d,e,l⟩;refine ah.bs (ur d ae e) (bu.2 ?_);grind
theorem S6 (a:aV b.natAbs<=3000000) (c:aV e.natAbs<=3000000):yh (aY b,aY e,())=Y (aY (b-e),()):=by simp_all [aj,Cf,anl,Int.sub_eq_add_neg,SU,yh]
theorem afh (i:aV b.natAbs<=3000000) (j:aV e.natAbs<=3000000):EO (aY b,aY e,())=Y (aY (b*e),()):=by
 obtain⟨a,d,m⟩:=ik i;obtain⟨c,f,n⟩:=ik j;unfold EO;dsimp only;refine bQ.1 ?_;refine ah.bs (uu a d aa) (ah.bs (uu c f aa) ?_);dsimp only;refine ah.aJ (afi a c aa aa) ?_;rintro _ ⟨o,rfl,k,l,p⟩;refine ah.bs (ur k ae l) (bu.2 ?_);dsimp only;rw[iQ,iQ];congr 2;show(if(!(bz (b<0)==bz (e<0)))=bt then _ else _)=_;rcases amd b 0 with g|g<;>rcases amd e 0 with h|h
 ·grind
 ·grind
 ·grind
 grind
theorem LH {n:Z} (b:-9223372036854775808<=n) (c:n<=9223372036854775807):tr (n,())=Y (aY n,()):=by
 unfold tr;dsimp only;obtain⟨a,d,e,f⟩:∃a:Z,a=n.natAbs/\0<=a/\a<=9223372036854775808:=⟨_,bq,aa,aa⟩;refine aj (y:=(a,(br,([],())),())) ?_ ?_
 ·rw[cW];grind [fM,cx,cF]
 dsimp only;rw[nM,bM,p1 a,lV (x:=a/4294967296) aa aa];refine aj (Cq (al5.2 ⟨⟨aa,aa⟩,al5.2 ⟨⟨aa,aa⟩,alQ⟩⟩) ac) ?_;grind [ak,hJ]
theorem LK {z:Z} {n:X} (a:aV z.natAbs<=3000000) (g:n<=10000000):nE (aY z,(n:Z),())=Y (aY (z*2^n),()):=by obtain⟨c,e,f⟩:=ik a;unfold nE;dsimp only;refine bQ.1 ?_;refine ah.bs (zf a) ?_;dsimp only;rw[aS (aI (aa:(n:Z)>=0))];refine ah.aJ (LL c aa (n:=n) aa) ?_;rintro _ ⟨h,rfl,d,b,i⟩;rw[iQ] at b;refine ah.bs (ur d ae b) (bu.2 ?_);dsimp only;congr 2;show(if bz (z<0)=bt then _ else _)=_;grind
theorem afv (j:aV b.natAbs<=2900000) (q:a<=10000000) (r:0<a):nE (aY b,-(a:Z),())=Y (aY (b/2^a),()):=by
 obtain⟨f,o,p⟩:=ik (z:=b) aa;have i:=kp a;unfold nE;dsimp only;refine bQ.1 ?_;refine ah.bs (zf aa) ?_;dsimp only;have ax:az (0- -(a:Z))=(a:Z):=(by grind [cF]);rw[aP (aD (aa:¬(-(a:Z)>=0))),ax];refine ah.aJ (LM f aa (n:=a) aa) ?_;rintro _ ⟨u,rfl,k,e,v⟩;rw[iQ] at e|-;dsimp only;refine ah.bs (ur k aa e) ?_;dsimp only;have l:(aY b).1=bz (b<0):=rfl;rw[l];have s:0<=(b.natAbs:Z)/2^a:=al4 aa aa;have t:(b.natAbs:Z)/2^a<=b.natAbs:=ank _ aa;have c:=QR (m:=b.natAbs) i aa;refine ah.bs (y:=((br,([],())),aY (b/2^a),())) ?_ (bu.2 bq);by_cases g:b<0
 ·rw[aI g];rw[(aa:-(b.natAbs:Z)=b)] at c;by_cases d:(b.natAbs:Z) %2^a=0
  ·grind
  rw[aI (show(b.natAbs:Z) %2^a≠0 from d)];refine aj bq ?_;dsimp only[bI];rw[ck d] at c;refine aj (LH ab ab) ?_;dsimp only;have h:aV (-((b.natAbs:Z)/2^a)).natAbs<=3000000:=(by rw[fZ];have:=fZ.1 j;omega);rw[b9 bq];refine aj (S6 h ab) ?_;grind
 grind
theorem aeR (c:aV b.natAbs<=2900000) (d:aV e.natAbs<=2900000):EL (aY b,aY e,())=Y (fo b e,()):=by unfold EL;refine aj (S6 aa aa) ?_;have a:aV (b-e).natAbs<=3000000:=(by have f:=Wh 2900000 c d;have g:=lC (aa:(b-e).natAbs<=b.natAbs+e.natAbs);omega);refine aj (lq a) ?_;grind [gI,fo]
def Ig (b:aV c<=a) (d:aV k<=a):aV (c+k)<=a+1:=by rw[fZ,u1];have:=fZ.1 b;have:=fZ.1 d;omega
def ae1 {x y:Z} (o:aV x.natAbs<=3000000) (j:aV y.natAbs<=3000000) (F:0<=x) (c:y≠0):EM (aY x,aY y,())=Y (aY (x/y),aY (x %y),()):=by
 obtain⟨m,p,q⟩:=ik o;obtain⟨n,r,s⟩:=ik j;have w:(aY y).2.1≠[]:=λt=>c (yw.1 t);unfold EM;refine aj (zf o) (aj (zf j) ?_);dsimp only;refine aj (ae0 m n p r aa aa w) ?_;rw[iQ,iQ];have A:(aY x).1=br:=aD aa;have C:(aY y).1=bz (y<0):=rfl;rw[A,C];have f:0<=(x.natAbs:Z)/(y.natAbs:Z):=al4 aa aa;have g:(x.natAbs:Z)/(y.natAbs:Z)<=x.natAbs:=ank _ aa;have h:0<=(x.natAbs:Z) %(y.natAbs:Z):=ani _ aa;have i:(x.natAbs:Z) %(y.natAbs:Z)<(y.natAbs:Z):=ang _ aa;have d:∀a:Z,a<=x.natAbs->(e2 a.toNat).length<=100000:=λa k=>CM (l:=(aY x).2.1) m q (by rw[iQ];exact k);have e:∀a:Z,a<=y.natAbs->(e2 a.toNat).length<=100000:=λa k=>CM (l:=(aY y).2.1) n s (by rw[iQ];exact k);dsimp only;refine aj (ur (oZ _) (by have:=d _ g;omega) (vX f)) (aj (ur (oZ _) (by have:=e _ (aln i);omega) (vX h)) ?_);dsimp only;rw[ck (ac:¬(br=bt))];have ax:(x.natAbs:Z)=x:=aa;rw[ax] at*;have u:x %(y.natAbs:Z)=x %y:=by
  rcases jB y 0 with b|b
  ·rw[(aa:(y.natAbs:Z)=-y),aqb]
  rw[(aa:(y.natAbs:Z)=y)]
 rw[u] at*;have D:0<=x %y:=oy _ c;have E:x %y<y.natAbs:=Int.emod_lt x c;have z:aV (x %y).natAbs<=3000000:=(by clear f g h i d e;generalize x %y=B at*;exact dk (lC aa) j);have v:(if(!(br==bz (y<0)))=bt then-(x/(y.natAbs:Z)) else x/(y.natAbs:Z))=x/y:=by
  rcases jB y 0 with b|b
  ·rw[aI b,(aa:(y.natAbs:Z)=-y),aqc];simp
  rw[aD (aa:¬y<0),(aa:(y.natAbs:Z)=y)];simp
 rw[v];refine aj (y:=((br,([],())),(br,([],())),aY (x/y),aY (x %y),())) ?_ bq;refine aj (lq z) ?_;dsimp only;rw[aP (aD ?_)];clear f g h i d e;generalize x %y=B at*;unfold gI;split;omega;split<;>omega
def SO {z:Z} {n:X} (c:aV z.natAbs<=3000000) (e:n<=10000000):AV (aY z,(n:Z),())=Y (bz ((z.natAbs:Z) %2^n≠0),()):=by obtain⟨a,b,d⟩:=ik c;unfold AV;dsimp only;refine bQ.1 ?_;refine ah.bs (uu a b aa) ?_;dsimp only;refine ah.aJ (LM a aa (n:=n) aa) ?_;rintro _ ⟨f,rfl,g,h,i⟩;rw[iQ];exact bu.2 bq
def aff {z:Z} (p:0<=z) (d:z<9223372036854775808):EN (aY z,())=Y (z,bt,()):=by
 have f:aV z.natAbs<=64:=fZ.2 aa;obtain⟨b,n,o⟩:=ik (z:=z) aa;have q:(aY z).2.1.length<=2:=Bn aa;unfold EN;dsimp only;refine bQ.1 ?_;refine ah.bs (zf aa) ?_;dsimp only;rw[aP (aD (show¬(ar (aY z).2.1>2) by simp only[a7];omega))];refine ah.aJ (P:=λl=>l=(z,aY z,())) ?_ ?_
 ·have k:=iQ z;refine ah.steps (aY z).2.1.length (λa m=>m=(ak ((aY z).2.1.take a),(a:Z),aY z,())) rfl ?_ ?_
  ·rintro a _ c rfl;have h:=b.get c;dsimp only;rw[aS (aI (show(a:Z)<ar (aY z).2.1 by simp only[a7];omega)),eP c,bM];have d:=ff (b.take a);have e:=ho (b.take a);rw[alj,amt aa,re] at e;have ax:az (32*(a:Z))=((32*a:X):Z):=(by rw[cF aa aa];simp);have f:(2:Z)^(32*a)<=4294967296:=by
    rcases(aa:a=0\/a=1) with rfl|rfl<;>decide
   have j:=kp (32*a);have r:(aY z).2.1[a]*2^(32*a)<4294967296*4294967296:=(by have:=j2 f h.1;omega);have g:0<=(aY z).2.1[a]*2^(32*a):=mS h.1 (fu j);rw[ax,fM (x:=(aY z).2.1[a]) aa aa,ou aa aa,aF,gg,sF g aa,nK (32*a) d e g aa aa (anZ _ _),a9 aa];refine bu.2 ?_;show(_,_,aY z,())=(_,_,aY z,());rw[iU c,re,lu (2^(32*a))]
  rintro _ rfl;dsimp only;rw[aP (aD (show¬(((aY z).2.1.length:Z)<ar (aY z).2.1) by simp only[a7];omega)),cj (cc _),k];refine bu.2 ?_;show(((z.natAbs:X):Z),aY z,())=_;rw[(aa:((z.natAbs:X):Z)=z)]
 rintro _ rfl;have i:(aY z).1=br:=aD aa;dsimp only;rw[i,bR,aP (aD (aa:¬(z>9223372036854775807))),cF aa aa];exact bu.2 bq
theorem Tu (h:aV e.natAbs<=1900000) (f:-1048576<=b) (g:b<=1048576):rL (aY e,b,())=Y (aY (q1 e b),0,()):=by
 rcases jB b 0 with d|d
 ·obtain⟨a,c⟩:∃a:X,b=-(a:Z):=⟨(-b).toNat,aa⟩;subst c;grind [afP,zn]
 obtain⟨a,c⟩:∃a:X,b=(a:Z):=⟨b.toNat,aa⟩;grind [afQ,ot]
theorem Cr (h:aV e.natAbs<=2900000) (f:-10000000<=b) (g:b<=10000000):nE (aY e,b,())=Y (aY (q1 e b),()):=by
 rcases jB b 0 with d|d
 ·obtain⟨a,c⟩:∃a:X,b=-(a:Z):=⟨(-b).toNat,aa⟩;subst c;grind [afv,zn]
 obtain⟨a,c⟩:∃a:X,b=(a:Z):=⟨b.toNat,aa⟩;grind [LK,ot]
def dc (a:Z):Z:=if a=0 then 0 else hZ a
theorem Gn:cR 0=0:=rfl
theorem g5 (a:Z):aw (Y a)=(br,aY (cR a),dc a,()):=by
 by_cases b:a=0
 ·subst b;rfl
 rw[OU b,dc,aA b]
theorem jZ (a:fB b):aV (cR b).natAbs<=131072:=by
 by_cases c:b=0
 ·subst c;exact a
 grind [aaG,fB]
theorem kq (a:fB b):-65536<=dc b/\dc b<=65536:=by grind [w1,fB,hZ,dc]
theorem Ge (c:fB b):hR (cR b) (dc b)=Y b:=by
 by_cases a:b=0
 ·subst a;rfl
 rw[dc,aA a,aaa c]
theorem aaH (c:b=0\/e<=hZ b) (g:-65536<=e):cR b*2^(dc b-e).toNat*2^(e+65536).toNat=b:=by
 by_cases a:b=0
 ·grind [Gn]
 have d:=ug b;have f:=c.resolve_left a;rw[dc,aA a,kK,<-l3];grind [hZ,db]
theorem OT (z:b≠0) (v:¬(e+db b.natAbs< -65536\/65536<e+aV b.natAbs)):aw (hR b e)=(br,aY (b/2^db b.natAbs),e+db b.natAbs,())/\(hR b e).isSome=bt:=by
 obtain⟨c,s⟩:∃c,c=q1 b (e+65536):=⟨_,bq⟩;have r:hR b e=Y c:=(by simp_all [aA,hR]);rw[r];refine⟨?_,bq⟩;obtain⟨h,y⟩:=uB (n:=b.natAbs) aa;have o:=(wd (n:=b.natAbs) (k:=db b.natAbs) aa).1 (bg _);have q:b/2^db b.natAbs*2^db b.natAbs=b:=Jf o;have A:(b/2^db b.natAbs).natAbs=2*h+1:=(by grind [aoT,amN,BT]);generalize x:db b.natAbs=d at*;generalize w:b/2^d=j at*;have t:c=j*2^(e+d+65536).toNat:=by
  rw[s,<-q];rcases apW 0 (e+65536) with l|l
  ·obtain⟨a,g⟩:∃a:X,e+65536=a:=⟨(e+65536).toNat,aa⟩;rw[g,ot,kK,<-l3];grind
  obtain⟨a,g⟩:∃a:X,e+65536=-(a:Z):=⟨(-(e+65536)).toNat,aa⟩;obtain⟨i,p⟩:∃i:X,d=i+a:=⟨d-a,aa⟩;rw[g,zn,p,l3,<-kK,ao0 _ (by have:=kp a;omega)];grind
 obtain⟨f,m⟩:∃f:X,e+d+65536=f:=⟨(e+d+65536).toNat,aa⟩;rw[m,gg] at t;have u:c.natAbs=(2*h+1)*2^f:=(by grind [na]);have B:db c.natAbs=f:=zv u;have C:c≠0:=ae;grind [ao0,kp,OU,hZ,cR]
theorem SN {m:Z} {n:X} (e:aV m.natAbs<=1900000) (f:n<=1048576):At (aY m,(n:Z),())=Y (aY (m/2^n),()):=by
 unfold At;dsimp only;refine bQ.1 ?_;refine ah.aJ (P:=λc=>c=((n:Z),aY m,(br,([],())),())) ?_ ?_
 ·refine ah.steps 0 (λb a=>a=((n:Z),aY m,(br,([],())),())) rfl (λb a d=>by omega) ?_;rintro _ rfl;dsimp only;rw[aP (aD (aa:¬((n:Z)>1048576)))];grind [bu]
 grind [cF,ao1,ah.bs,Tu,bu,zn]
theorem BF {m k:Z} (b:aV m.natAbs<=1900000) (c:0<=k) (a:k<=1048576):oT (aY m,k,())=Y (aY (m*2^k.toNat),()):=by unfold oT;refine aj (Tu b aa a) ?_;grind [ot,cC]
theorem QW (p:aV e.natAbs<=900000) (m:-1000000000000<=v) (o:v<=1000000000000):oU ((br,aY e,v,()),())=Y (aw (hR e v),(hR e v).isSome,()):=by
 obtain⟨f,k,l⟩:=ik (z:=e) aa;unfold oU;dsimp only;rw[bR];have d:=aaB (b:=aY e) f aa;rw[pg] at d;refine aj d ?_;refine aj (uy (jU aa)) ?_;dsimp only;rw[gp,cW];split
 ·rename_i a;have:e=0:=by
   grind [gI]
  subst this;rfl
 rename_i a;have c:e≠0:=(by intro v;subst v;exact a bq);have q:=w1 (n:=e.natAbs) aa;refine aj (Ue (jU aa) c) ?_;dsimp only;by_cases i:v+db e.natAbs< -65536\/65536<v+aV e.natAbs
 ·have j:hR e v=bv:=(by simp_all [aA,aB,hR]);rw[j];refine aj (y:=.inr (aw bv,br,())) ?_ bq;refine aj (y:=(bt,(br,((br,([],())),((0:Z),()))),aY e,())) ?_ bq;refine aj (xK (jU aa)) ?_;grind [aD,aI,cF]
 obtain⟨g,h⟩:=OT c i;rw[g,h];refine aj (y:=.inl ((br,((br,([],())),((0:Z),()))),aY e,())) ?_ ?_
 ·refine aj (y:=(br,(br,((br,([],())),((0:Z),()))),aY e,())) ?_ bq;refine aj (xK (jU aa)) ?_;grind [aD,cF]
 refine aj (SN aa aa) ?_;grind [cF]
theorem wy (b:cN j):oU (aw j,())=Y (aw j,j.isSome,()):=by
 cases j with
 |none=>rfl
 |some c=>
  have a:=b c bq;have d:=jZ a;have e:=kq a;grind [g5,QW,Ge]
def BL (d:aV e.natAbs<=900000) (a:-1000000000000<=b) (c:b<=1000000000000):tc (aY e,b,())=Y (aw (hR e b),()):=by unfold tc;exact aj (QW d a c) rfl
def Fl (a:cN j):vu (aw j,())=Y (aw j,()):=by unfold vu;exact aj (wy a) rfl
def kW (a:ak1):Z:=gI (a.getD 0)
theorem Ts (a:Z):gI (cR a)=gI a:=by
 unfold gI;have:=Gm (v:=a);by_cases b:a=0
 ·subst b;rfl
 simp_all [jW,aA]
def oX (a:cN j):pF (aw j,())=Y (kW j,()):=by
 unfold pF;refine aj (wy a) ?_;cases j with
 |none=>exact aj (uy (z:=0) (jU ab)) rfl
 |some b=>
  have c:=jZ (a b bq);rw[g5];refine aj (uy (jU aa)) ?_;show Y (gI (cR b),())=_;rw[Ts];rfl
theorem Mk {a b:ak1} (c:cN a) (d:cN b):xZ (aw a,aw b,())=Y (aw a,aw b,a.isSome&&b.isSome,()):=by unfold xZ;refine aj (wy c) (aj (wy d) ?_);grind
def cM (c d:ak1):ak1:=c.bind λa=>d.bind λb=>hR (cR a*cR b) (dc a+dc b)
def cQ (a b:ak1):ak1:=a.bind λc=>b.bind λd=>oS (c+d)
def dd (a:ak1):ak1:=a.map λb=>-b
def nC (a:ak1):ak1:=a.map λb=>(b.natAbs:Z)
theorem kl (b c:ak1):cN (cM b c):=by
 intro d a;unfold cM at a;cases b with
 |none=>cases a
 |some e=>cases c with
  |none=>cases a
  |some f=>exact KE _ _ d a
theorem k7 (b c:ak1):cN (cQ b c):=by
 intro d a;unfold cQ at a;cases b with
 |none=>cases a
 |some e=>cases c with
  |none=>cases a
  |some f=>exact N6 _ d a
theorem QQ (b:cN j):cN (dd j):=by
 intro d a;cases j with
 |none=>cases a
 |some c=>cases a;have:=b c bq;grind [anl,fB]
theorem VJ (b:cN j):cN (nC j):=by
 intro d a;cases j with
 |none=>cases a
 |some c=>cases a;have:=b c bq;grind [an3,fB]
def oW (a:cN j) (b:cN m):m0 (aw j,aw m,())=Y (aw (cM j m),()):=by
 unfold m0;refine aj (Mk a b) ?_;cases j with
 |none=>rfl
 |some c=>
  cases m with
  |none=>rfl
  |some d=>
   have e:=jZ (a c bq);have f:=jZ (b d bq);have g:=kq (a c bq);have h:=kq (b d bq);rw[g5,g5];refine aj (aah aa aa) ?_;dsimp only;rw[cF aa aa];refine aj (BL ?_ aa aa) rfl;rw[aqe];have:=xM e f;omega
theorem KO (a:Z):cR (-a)=-cR a:=by have b:=ug a;grind [Int.eq_of_mul_eq_mul_right,Int.neg_mul,kp,anl,ug,cR,db]
theorem Jr (a:Z):dc (-a)=dc a:=by simp_all [aA,anl,dc,hZ]
theorem Q0 (a:Z):cR (a.natAbs:Z)=((cR a).natAbs:Z):=by
 have c:=Gm (v:=a);rcases jB a 0 with b|b
 ·grind [KO]
 grind
theorem O0 (a:Z):dc (a.natAbs:Z)=dc a:=by grind [Jr,amd]
def Xn (b:cN j):DH (aw j,())=Y (aw (dd j),()):=by
 unfold DH;refine aj (wy b) ?_;cases j with
 |none=>rfl
 |some a=>
  have c:=jZ (b a bq);rw[g5];refine aj (aj (QS (jU aa)) rfl) ?_;show Y ((br,aY (-cR a),dc a,()),())=Y (aw (Y (-a)),());rw[g5,KO,Jr]
def W9 (b:cN j):DG (aw j,())=Y (aw (nC j),()):=by
 unfold DG;refine aj (wy b) ?_;cases j with
 |none=>rfl
 |some a=>
  have c:=jZ (b a bq);rw[g5];refine aj (aj (z9 (jU aa)) rfl) ?_;show Y ((br,aY ((cR a).natAbs:Z),dc a,()),())=Y (aw (Y (a.natAbs:Z)),());rw[g5,Q0,O0]
def i9 (a b:Z):Z:=cR a*2^(dc a-b).toNat
theorem uC {v e:Z} (a:v=0\/e<=hZ v) (b:-65536<=e):i9 v e*2^(e+65536).toNat=v:=aaH a b
def q7 (a:b=0\/e<=hZ b) (f:-65536<=e) (g:fB b):aV (i9 b e).natAbs<=131072:=by
 have c:=uC a f;have d:(i9 b e).natAbs<=b.natAbs:=by
  conv=>rhs;rw[<-c,na]
  exact aqf _ (j4 _)
 exact dk (lC d) g
def Kk (c:b=0\/e<=hZ b) (h:-65536<=e) (i:e<=65536) (a:fB b) (d:e<=dc b):oT (aY (cR b),dc b-e,())=Y (aY (i9 b e),()):=by have f:=jZ a;have g:=kq a;exact BF aa aa aa
theorem QA (a:-65536<=b) (c:e=0\/b<=hZ e) (d:v=0\/b<=hZ v):hR (i9 e b+i9 v b) b=oS (e+v):=by grind [anm,uC,BR]
theorem ke (a:e<=dc b):b=0\/e<=hZ b:=by
 by_cases c:b=0
 ·omega
 simp_all [aA,dc]
def Ng (f:fB b) (g:fB e):∃a,a<=dc b/\a<=dc e/\-65536<=a/\a<=65536/\As (aw (Y b),aw (Y e),())=Y (aY (i9 b a),aY (i9 e a),a,()):=by have h:=kq f;have i:=kq g;refine⟨if dc e<dc b then dc e else dc b,aa,aa,aa,aa,?_⟩;unfold As;rw[g5,g5];dsimp only;generalize j:(if dc e<dc b then dc e else dc b)=a;have ax:a<=dc b:=aa;have c:a<=dc e:=aa;have d:-65536<=a:=aa;rw[cF (x:=dc b-a) aa aa,cF (x:=dc e-a) aa aa];exact aj (Kk (ke ax) d aa f ax) (aj (Kk (ke c) d aa g c) rfl)
def Ox (e:cN j) (b:cN m):Aq (aw j,aw m,())=Y (aw (cQ j m),()):=by
 unfold Aq;refine aj (Mk e b) ?_;cases j with
 |none=>rfl
 |some h=>
  cases m with
  |none=>rfl
  |some i=>
   have f:=e h bq;have g:=b i bq;obtain⟨c,ax,d,a,o,n⟩:=Ng f g;have k:=q7 (ke ax) a f;have l:=q7 (ke d) a g;refine aj n (aj (H0 aa aa) ?_);have b:aV (i9 h c+i9 i c).natAbs<=131073:=dk (lC (an4 _ _)) (Ig k l);refine aj (BL aa aa aa) ?_;rw[QA a (ke ax) (ke d)];rfl
def Fp (b:cN j) (a:cN m):vv (aw j,aw m,())=Y (aw (cQ j (dd m)),()):=by unfold vv;exact aj (Xn a) (aj (Ox b (QQ a)) rfl)
theorem Mo (c:-65536<=b) (h:e=0\/b<=hZ e) (i:v=0\/b<=hZ v):i9 e b<i9 v b↔e<v:=by
 have f:=uC h c;have g:=uC i c;have d:=kp (b+65536).toNat;constructor
 ·intro a;have:=sG a d;omega
 intro a;rw[<-f,<-g] at a;exact Int.lt_of_mul_lt_mul_right a (fu d)
theorem I9 (d:fB e) (f:fB v):xX (aw (Y e),aw (Y v),())=Y (fo e v,bt,()):=by unfold xX;refine aj (Mk (a:=Y e) (b:=Y v) (λj i=>by grind) (λj i=>by grind)) ?_;obtain⟨m,ax,g,c,n,h⟩:=Ng d f;have k:=q7 (ke ax) c d;have l:=q7 (ke g) c f;refine aj h (aj (Od aa aa) ?_);grind [Mo,ke,fo]
def iv (a:Z):ak1:=hR a 0
def vS (a:-9223372036854775808<=b) (c:b<=9223372036854775807):pE (b,())=Y (aw (iv b),()):=by unfold pE;have d:aV b.natAbs<=64:=fZ.2 aa;exact aj (FH a c) (aj (BL aa ab ab) rfl)
def hT:eA->Z
 |[]=>0
 |d::a=>d.getD 0+hT a
def k8:eA->bD
 |[]=>bt
 |d::a=>d.isSome&&k8 a
def lr (a:eA):ak1:=if k8 a=bt then oS (hT a) else bv
theorem agk (b:eA):cN (lr b):=by
 intro c a;unfold lr at a;split at a
 ·exact N6 _ c a
 grind
theorem T1 (a b:eA):hT (a++b)=hT a+hT b:=by
 induction a with
 |nil=>simp[hT]
 |cons d a c=>grind [hT]
theorem VN (a b:eA):k8 (a++b)=(k8 a&&k8 b):=by
 induction a with
 |nil=>simp[k8]
 |cons d a c=>grind [Bool.and_assoc,k8]
def Mh (b:a<r.length):hT (r.take (a+1))=hT (r.take a)+(r[a]).getD 0:=by rw[hA,bh b];show hT (r.take a++[r[a]])=_;rw[T1];simp[hT]
theorem Nm (b:a<r.length):k8 (r.take (a+1))=(k8 (r.take a)&&(r[a]).isSome):=by grind [VN,ct,bV,k8]
theorem Nl (b:k8 r=bt) (d:a<r.length):∃c,r[a]=Y c:=by
 induction r generalizing a with
 |nil=>grind
 |cons f r e=>
  simp only[k8,cL] at b;cases a with
  |zero=>grind [Option.isSome_iff_exists]
  |succ a=>simp_all
theorem Nk (b:a<r.length) (c:r[a]=bv):k8 r=br:=by grind [Nl]
def Xq (A:∀B∈r,cN B) (L:r.length<=1000000):DL (r.map aw,())=Y (aw (lr r),()):=by
 unfold DL;refine bQ.1 ?_;dsimp only;refine ah.aJ (P:=λs=>match s with
  |.inl o=>∃b,o=(b,(br,((br,([],())),((0:Z),()))),r.map aw,())/\k8 r=bt/\-65536<=b/\b<=0/\(∀a d,(C:a<r.length)->r[a]=Y d->b<=dc d)
  |.inr o=>o=(aw (lr r),())) ?_ ?_
 ·refine ah.steps r.length (λa v=>∃b,v=(b,(a:Z),(br,((br,([],())),((0:Z),()))),(r.take a).map aw,())/\k8 (r.take a)=bt/\-65536<=b/\b<=0/\(∀h d,(C:h<r.length)->h<a->r[h]=Y d->b<=dc d)) ⟨0,bq,bq,ab,ab,λh d f g=>by omega⟩ ?_ ?_
  ·rintro a _ e ⟨b,rfl,f,g,t,l⟩;have z:=A r[a] (b1 e);dsimp only;rw[aS (aI (show(a:Z)<ar (r.map aw) by simp only[a7,b6];omega))];refine ah.bs (y:=aw r[a]) ?_ (ah.bs (wy z) ?_)
   ·rw[eP (by simpa using e),oE]
   dsimp only;cases m:r[a] with
   |none=>
    refine ah.bs bq (bu.2 ?_);show(aw bv,())=_;rw[lr,aA];rw[Nk e m];simp
   |some d=>
    have n:fB d:=z d m;have I:=kq n;show ah ((cI _).bind _) _;rw[c9 (by simp;omega)];refine bu.2 ⟨if dc d<b then dc d else b,?_,?_,by split<;>omega,by split<;>omega,?_⟩
    ·rw[a9 aa,hA,bh e,m];simp only[Option.toList_some,iK,ir,sL,g5]
    ·rw[Nm e,f,m];rfl
    intro h K J N u;rcases cY h a with w|w
    ·have:=l h K J w u;split<;>omega
    obtain rfl:h=a:=aa;rw[m] at u;cases u;split<;>omega
  rintro _ ⟨b,rfl,f,g,t,l⟩;dsimp only;rw[aP (aD (show¬((r.length:Z)<ar (r.map aw)) by simp only[a7,b6];omega))];rw[cj (cc _)] at f|-;exact bu.2 ⟨b,bq,f,g,t,λa d e j=>l a d e e j⟩
 rintro(s|s) q
 ·obtain⟨b,rfl,f,g,t,l⟩:=q;dsimp only;refine ah.aJ (P:=λo=>∃c,o=((br,((br,([],())),((0:Z),()))),aY c,())/\c*2^(b+65536).toNat=hT r/\aV c.natAbs<=200000) ?_ ?_
  ·have x:∀c:Z,c.natAbs<=r.length*2^131072->aV c.natAbs<=200000:=λc G=>by
    refine dk (lC G) ?_;have:aV r.length<=20:=fZ.2 aa;have D:aV (2^131072)<=131073:=fZ.2 (Ll 131072 131073 ab);have:=xM this D;omega
   refine ah.steps r.length (λa v=>∃c,v=((a:Z),(br,((br,([],())),((0:Z),()))),r.map aw,aY c,())/\c*2^(b+65536).toNat=hT (r.take a)/\c.natAbs<=a*2^131072) ⟨0,bq,by rw[oz];simp[hT],(dj _:(0:X)<=_)⟩ ?_ ?_
   ·rintro a _ e ⟨c,rfl,i,k⟩;obtain⟨d,j⟩:=Nl f e;have n:fB d:=A r[a] (b1 e) d j;have p:=l a d e j;have H:=q7 (ke p) g n;have I:=kq n;have M:=x c (cu k (aqg _ aa));dsimp only;rw[aS (aI (show(a:Z)<ar (r.map aw) by simp only[a7,b6];omega)),jM (by simpa using e),an5,j,g5];dsimp only;rw[cF aa aa];refine ah.bs (Kk (ke p) g aa n p) (ah.bs (H0 aa aa) (bu.2 ⟨c+i9 d b,by rw[a9 aa],?_,?_⟩))
    ·rw[anm,i,uC (ke p) g,Mh e,j];rfl
    have E:=fZ.1 H;have F:=an4 c (i9 d b);exact dk F (QL k E)
   rintro _ ⟨c,rfl,i,k⟩;dsimp only;rw[aP (aD (show¬((r.length:Z)<ar (r.map aw)) by simp only[a7,b6];omega))];rw[cj (cc _)] at i;exact bu.2 ⟨c,bq,i,x c k⟩
  rintro _ ⟨c,rfl,i,k⟩;refine ah.bs (BL aa aa aa) (bu.2 ?_);show(aw (hR c b),())=_;rw[BR g i.symm,lr,aB f]
 have q:s=_:=q;rw[q];exact bu.2 bq
theorem jA:(gI b==0)=bz (b=0):=by rw[gp,cy];unfold gI;omega
theorem LC {m:Z} {n:X} (e:aV m.natAbs<=1900000) (f:n<=1048576):yl (aY m,(n:Z),())=Y (aY (m/2^n),()):=by
 unfold yl;dsimp only;refine bQ.1 ?_;refine ah.aJ (P:=λc=>c=((n:Z),aY m,(br,([],())),())) ?_ ?_
 ·refine ah.steps 0 (λb a=>a=((n:Z),aY m,(br,([],())),())) rfl (λb a d=>by omega) ?_;rintro _ rfl;dsimp only;rw[aP (aD (aa:¬((n:Z)>1048576)))];grind [bu]
 grind [cF,ao1,ah.bs,Cr,bu,zn]
theorem SP {b:p3} {m:Z} (d:aX b.2.1) (s:b.2.1.length<=100000000) (h:hJ b=m) (E:aV m.natAbs<=900000) (w:-1000000000000<=e) (z:e<=1000000000000):oV (b,e,())=Y (aw (hR m e),()):=by
 unfold oV;dsimp only;have g:=SV d s;rw[h] at g;refine aj g ?_;dsimp only;rw[tX,cW];split
 ·rename_i a;have:=yw.1 a;subst this;rfl
 rename_i a;have f:m≠0:=λe=>a (yw.2 e);have F:=w1 (n:=m.natAbs) aa;have D:=qv (m:=m.natAbs) aa;rw[cW];split
 ·rename_i i;have c:hR m e=bv:=(by unfold hR;grind);rw[c];rfl
 rename_i i;refine aj (S8 aa f) (aj (Ce aa) (aj (LC (m:=(m.natAbs:Z)) ae aa) ?_));have r:=(wd (n:=m.natAbs) (k:=db m.natAbs) aa).1 (cc _);have p:(m.natAbs:Z)/2^db m.natAbs=(((m/2^db m.natAbs).natAbs:X):Z):=(by grind [BT,za,an6]);have o:aV ((m/2^db m.natAbs).natAbs)=aV m.natAbs-db m.natAbs:=(by rw[BT r,xN]);rw[p];dsimp only;rw[cF (x:=e+(db m.natAbs:Z)) aa aa];by_cases q:e+db m.natAbs< -65536\/65536<e+aV m.natAbs
 ·have c:hR m e=bv:=(by simp_all [aA,aB,hR]);rw[c];refine aj (y:=.inr (aw bv,())) ?_ bq;refine aj (y:=(bt,(br,((br,([],())),((0:Z),()))),aY ((m/2^db m.natAbs).natAbs:Z),())) ?_ bq;by_cases j:e+(db m.natAbs:Z)< -65536
  ·grind
  rw[aD j];refine aj (Cg ae) ?_;rw[an3,o];dsimp only;rw[cF aa aa,aI (aa:e+(db m.natAbs:Z)+((aV m.natAbs-db m.natAbs:X):Z)>65536)]
 obtain⟨l,A⟩:=OT f q;rw[l];refine aj (y:=.inl ((br,((br,([],())),((0:Z),()))),aY ((m/2^db m.natAbs).natAbs:Z),())) ?_ ?_
 ·refine aj (y:=(br,(br,((br,([],())),((0:Z),()))),aY ((m/2^db m.natAbs).natAbs:Z),())) ?_ bq;rw[aD (aa:¬(e+(db m.natAbs:Z)< -65536))];refine aj (Cg ae) ?_;grind [cF,aD,an3]
 dsimp only;congr 3;have t:b.1=bz (m/2^db m.natAbs<0):=(by have B:(m/2^db m.natAbs<0)↔m<0:=Gm (v:=m);have C:b.1=bz (m<0):=(by have u:=ff d;unfold hJ at h;grind);grind);rw[t];rfl
def wR {e:Z} (d:aV b.natAbs<=900000) (a:-1000000000000<=e) (c:e<=1000000000000):oV (aY b,e,())=Y (aw (hR b e),()):=
 SP (m3 b) (by have:=(ik (z:=b) aa).2.2;omega) (pg b) d a c
def nf {d:ak1} (c:cN d):lE (aw d,())=Y (aw d,()):=by
 cases d with
 |none=>rfl
 |some b=>
  have a:=c b bq;have f:=jZ a;have g:=kq a;unfold lE;rw[g5];refine aj (wR (e:=dc b) aa aa aa) ?_;rw[Ge a,g5]
theorem rW (a:ak1):(aw a).1=!a.isSome:=by
 cases a with
 |none=>rfl
 |some b=>rw[g5];rfl
def SC (a:cN j):A0 (aw j,())=Y (kW j,()):=by
 unfold A0;refine aj (nf a) ?_;cases j with
 |none=>rfl
 |some b=>
  have c:=jZ (a b bq);rw[g5];refine aj (lq aa) ?_;show Y (gI (cR b),())=_;rw[Ts];rfl
theorem ae2 (b:cN j):EU (aw j,())=Y (aw (dd j),()):=by
 unfold EU;refine aj (nf b) ?_;cases j with
 |none=>rfl
 |some a=>
  have c:=b a bq;have f:=jZ c;have g:=kq c;rw[g5];refine aj (SU aa) (aj (wR (e:=dc a) ae aa aa) ?_);have d:fB (-a):=(by grind [anl,fB]);rw[<-KO,<-Jr,Ge d];rfl
theorem LB (b:cN j):yk (aw j,())=Y (aw (nC j),()):=by
 unfold yk;refine aj (nf b) ?_;cases j with
 |none=>rfl
 |some a=>
  have c:=b a bq;have f:=jZ c;have g:=kq c;rw[g5];refine aj (Ce aa) (aj (wR (e:=dc a) ae aa aa) ?_);have d:fB (a.natAbs:Z):=(by grind [an3,fB]);rw[<-Q0,<-O0,Ge d];rfl
theorem Uf (a:Z):i9 0 a=0:=by unfold i9;rw[Gn,oz]
theorem zw (a:Z):i9 a (dc a)=cR a:=by grind [i9]
theorem Nf (g:fB b) (h:fB e):∃a,(b=0\/a<=hZ b)/\(e=0\/a<=hZ e)/\-65536<=a/\a<=65536/\tx (aw (Y b),aw (Y e),())=Y (aY (i9 b a),aY (i9 e a),a,()):=by
 have k:=kq g;have l:=kq h;have i:=jZ g;have j:=jZ h;by_cases c:b=0
 ·subst c;refine⟨dc e,.inl bq,ke (amb _),aa,aa,?_⟩;unfold tx;rw[g5,g5];refine aj (lq aa) ?_;grind [jA,aI,Uf,zw]
 by_cases d:e=0
 ·subst d;refine⟨dc b,ke (amb _),.inl bq,aa,aa,?_⟩;unfold tx;rw[g5,g5];refine aj (lq aa) ?_;dsimp only;rw[jA,aD (jW c)];refine aj (lq aa) ?_;grind [jA,aI,Uf,zw]
 by_cases f:dc b>dc e
 ·refine⟨dc e,ke aa,ke (amb _),aa,aa,?_⟩;unfold tx;rw[g5,g5];refine aj (lq aa) ?_;dsimp only;rw[jA,aD (jW c)];refine aj (lq aa) ?_;dsimp only;rw[jA,aD (jW d),aI f,cF aa aa,zw];refine aj (Cr aa aa aa) ?_;grind [ot,i9,dc]
 refine⟨dc b,ke (amb _),ke aa,aa,aa,?_⟩;unfold tx;rw[g5,g5];refine aj (lq aa) ?_;dsimp only;rw[jA,aD (jW c)];refine aj (lq aa) ?_;dsimp only;rw[jA,aD (jW d),aD f,cF (x:=dc e-dc b) aa aa,zw];refine aj (Cr aa aa aa) ?_;grind [ot,i9,dc]
theorem Ci (h:cN j) (f:cN m):ts (aw j,aw m,())=Y (aw (cQ j m),()):=by
 unfold ts;refine aj (nf h) (aj (nf f) ?_);cases j with
 |none=>rfl
 |some a=>
  cases m with
  |none=>dsimp only;rw[g5 a];rfl
  |some c=>
   have i:=h a bq;have k:=f c bq;obtain⟨b,ax,g,d,p,o⟩:=Nf i k;have l:=q7 ax d i;have n:=q7 g d k;refine aj (y:=.inl (aw (Y a),aw (Y c),(br,((br,([],())),((0:Z),()))),())) ?_ ?_
   ·grind [rW]
   dsimp only;refine aj o (aj (Cf aa aa) ?_);have f:aV (i9 a b+i9 c b).natAbs<=131073:=cu (lC (an4 _ _)) (Ig l n);refine aj (wR (e:=b) aa aa aa) ?_;rw[QA d ax g];rfl
def Ck (b:cN j) (a:cN m):tw (aw j,aw m,())=Y (aw (cQ j (dd m)),()):=by unfold tw;exact aj (ae2 a) (aj (Ci b (QQ a)) rfl)
def kH (a:cN j) (b:cN m):kc (aw j,aw m,())=Y (aw (cM j m),()):=by
 unfold kc;refine aj (nf a) (aj (nf b) ?_);cases j with
 |none=>rfl
 |some c=>
  cases m with
  |none=>dsimp only;rw[g5 c];rfl
  |some d=>
   have e:=jZ (a c bq);have f:=jZ (b d bq);have g:=kq (a c bq);have h:=kq (b d bq);rw[g5,g5];refine aj bq ?_;dsimp only;refine aj (afh aa aa) ?_;dsimp only;rw[cF aa aa];refine aj (wR ?_ aa aa) rfl;rw[aqe];have:=xM e f;omega
theorem SB (f:fB e) (g:fB b):ES (aw (Y e),aw (Y b),())=Y (fo e b,bt,()):=by
 unfold ES;refine aj (nf (d:=Y e) (λl i=>by grind)) (aj (nf (d:=Y b) (λl i=>by grind)) ?_);obtain⟨o,ax,c,a,p,h⟩:=Nf f g;have m:=q7 ax a f;have n:=q7 c a g;refine aj (y:=.inl (aw (Y e),aw (Y b),())) ?_ ?_
 ·dsimp only;rw[rW,rW];rfl
 dsimp only;refine aj h (aj (aeR aa aa) ?_);have j:=Mo a ax c;have k:=Mo a c ax;dsimp only;unfold fo;simp only[j,k]
def Cj (a:-9223372036854775808<=b) (c:b<=9223372036854775807):tv (b,())=Y (aw (iv b),()):=by unfold tv;have d:aV b.natAbs<=64:=fZ.2 aa;exact aj (LH a c) (aj (wR aa ab ab) rfl)
def SD (Q:∀F∈r,cN F) (q:r.length<=1000000):A1 (r.map aw,())=Y (aw (lr r),()):=by
 unfold A1;refine bQ.1 ?_;dsimp only;have O:∀c:Z,c.natAbs<=r.length*2^131072->aV c.natAbs<=200000:=λc S=>(by refine cu (lC S) ?_;have:aV r.length<=20:=fZ.2 aa;have L:aV (2^131072)<=131073:=fZ.2 (Ll 131072 131073 ab);have:=xM this L;omega);have z:∀(c a:Z) (d:X),-65536<=a->d<=r.length->(hT (r.take d)).natAbs<=d*2^131072->c*2^(a+65536).toNat=hT (r.take d)->aV c.natAbs<=200000:=λc a d V l j f=>(by refine O c (cu ?_ (aqg _ l));refine cu ?_ j;rw[<-f,na];exact aqf _ (amN _));refine ah.aJ (P:=λi=>match i with
  |.inl n=>∃a c,n=(a,(br,((br,([],())),((0:Z),()))),aY c,())/\k8 r=bt/\-65536<=a/\a<=65536/\c*2^(a+65536).toNat=hT r/\aV c.natAbs<=200000
  |.inr n=>n=(aw (lr r),())) ?_ ?_
 ·refine ah.steps r.length (λd T=>∃a c,T=(a,(d:Z),(br,((br,([],())),((0:Z),()))),aY c,())/\k8 (r.take d)=bt/\-65536<=a/\a<=65536/\c*2^(a+65536).toNat=hT (r.take d)/\(hT (r.take d)).natAbs<=d*2^131072) ⟨0,0,bq,bq,ab,ab,by rw[oz];simp[hT],(dj _:(0:X)<=_)⟩ ?_ ?_
  ·rintro d _ l ⟨a,c,rfl,j,f,p,g,o⟩;have w:=Q r[d] (b1 l);have D:=z c a d f aa o g;dsimp only;rw[aS (aI (show(d:Z)<ar (r.map aw) by simp only[a7,b6];omega))];refine ah.aJ (P:=λi=>match i with
    |.inl n=>∃b a c,r[d]=Y b/\n=(a,(br,((br,([],())),((0:Z),()))),aY c,())/\-65536<=a/\a<=65536/\c*2^(a+65536).toNat=hT (r.take d)+b
    |.inr n=>n=.inr (.inr (aw (lr r),()))) ?_ ?_
   ·refine ah.bs (y:=aw r[d]) ?_ (ah.bs (nf w) ?_)
    ·rw[eP (by simpa using l),oE]
    dsimp only;cases A:r[d] with
    |none=>
     refine ah.bs bq (bu.2 ?_);show _=Sum.inr (Sum.inr (aw (lr r),()));rw[lr,aA]
     ·rfl
     rw[Nk l A];simp
    |some b=>
     have s:fB b:=w b A;have ap:=kq s;have am:=jZ s;rw[g5];refine ah.bs (lq aa) ?_;dsimp only;rw[jA];by_cases E:b=0
     ·subst E;rw[aI (show cR 0=0 from rfl)];exact bu.2 ⟨0,a,c,bq,bq,f,p,by rw[g];omega⟩
     rw[aD (jW E)];refine ah.bs (lq aa) ?_;dsimp only;rw[jA];by_cases C:c=0
     ·subst C;rw[aI bq];refine bu.2 ⟨b,dc b,cR b,bq,bq,aa,aa,?_⟩;have:=uC (v:=b) (e:=dc b) (ke (amb _)) aa;rw[zw] at this;rw[this,<-g];simp
     rw[aD C];by_cases t:dc b>=a
     ·rw[aI t,cF aa aa];refine ah.bs (Cr aa aa aa) ?_;have R:q1 (cR b) (dc b-a)=i9 b a:=by
       obtain⟨m,q⟩:∃m:X,dc b-a=m:=⟨(dc b-a).toNat,aa⟩;rw[q,ot,i9,q];rfl
      have an:=q7 (ke t) f s;rw[R];refine ah.bs (Cf aa aa) (bu.2 ⟨b,a,c+i9 b a,bq,bq,f,p,?_⟩);rw[anm,g,uC (ke t) f]
     rw[aD t,cF (x:=a-dc b) aa aa];obtain⟨m,q⟩:∃m:X,a-dc b=m:=⟨(a-dc b).toNat,aa⟩;have B:c*2^m*2^(dc b+65536).toNat=hT (r.take d):=(by rw[<-g,kK,<-l3];congr 2;omega);have ad:=z (c*2^m) (dc b) d aa aa o B;rw[q];refine ah.bs (Cr aa aa aa) ?_;rw[ot];refine ah.bs (Cf aa aa) (bu.2 ⟨b,dc b,c*2^m+cR b,bq,bq,aa,aa,?_⟩);have:=uC (v:=b) (e:=dc b) (ke (amb _)) aa;rw[zw] at this;rw[anm,B,this]
   rintro(i|i) h
   ·obtain⟨b,G,U,u,rfl,H,I,J⟩:=h;have s:fB b:=w b u;refine bu.2 ⟨G,U,by rw[a9 aa],by rw[Nm l,j,u];rfl,H,I,by rw[Mh l,u];exact J,?_⟩;rw[Mh l,u];have M:=an4 (hT (r.take d)) b;have N:b.natAbs<2^131072:=(fZ (k:=131072)).1 s;show(hT (r.take d)+b).natAbs<=_;have K:=QL o N;exact dk M K
   have h:i=_:=h;rw[h];exact bu.2 bq
  rintro _ ⟨a,c,rfl,j,f,p,g,o⟩;dsimp only;rw[aP (aD (show¬((r.length:Z)<ar (r.map aw)) by simp only[a7,b6];omega))];have D:=z c a r.length f (cc _) o g;rw[cj (cc _)] at j g;exact bu.2 ⟨a,c,bq,j,f,p,g,D⟩
 rintro(i|i) h
 ·obtain⟨a,c,rfl,j,f,p,g,o⟩:=h;refine ah.bs (wR aa aa aa) (bu.2 ?_);show(aw (hR c a),())=_;rw[BR f g.symm,lr,aB j]
 have h:i=_:=h;rw[h];exact bu.2 bq
def cH (a:Z):Z:=a/4503599627370496 %2048
def gS (a:Z):Z:=a %4503599627370496
def eH (a:Z):Prop:=0<=a/\a<18446744073709551616
def a6 (a:Z):ak1:=
 if cH a=2047 then bv
 else hR (if a<9223372036854775808 then if cH a=0 then gS a else gS a+4503599627370496 else-(if cH a=0 then gS a else gS a+4503599627370496)) (if cH a=0 then-1074 else cH a-1075)
theorem fF (b:Z):cN (a6 b):=by
 intro c a;unfold a6 at a;split at a
 ·cases a
 exact KE _ _ c a
def Lm (a:eH b):x1 (b,())=Y (cH b,gS b,()):=by unfold x1;dsimp only;have c:=a.1;have d:=a.2;rw[ux ab ab,bM,show(2:Z)^(52:Z).toNat=4503599627370496 from rfl,sW 11 aa aa 2047 ab ab,sW 52 aa aa 4503599627370495 ab ab,cF aa aa];rfl
theorem NJ (g:eH b):(e3 bG b 9223372036854775808 !=0)=bz (9223372036854775808<=b):=by
 obtain⟨c,j⟩:=g;obtain⟨a,rfl⟩:=gB c;have f:a<18446744073709551616:=aa;have d:(9223372036854775808:Z)=((2^63:X):Z):=rfl;rw[d,Nr f ab,fJ];rcases cY a (2^63) with e|e
 ·have h:a&&&2^63=0:=by
   refine apZ λk=>?_;rw[ap0,aoK,Nat.zero_testBit];grind
  grind
 have h:a&&&2^63≠0:=(by intro i;have c:(a&&&2^63).testBit 63=br:=ae;grind);grind
theorem aan (a:eH b):DP (b,())=Y (bz (9223372036854775808<=b),()):=by grind [NJ,DP]
theorem FW (a:eH b):pG (b,())=Y (!bz (cH b=2047),()):=by simp_all [fJ,aj,Lm,pG]
def lK (a:Z):Z:=if cH a=2047 then if gS a=0 then 2 else 3 else if cH a=0/\gS a=0 then 0 else 1
theorem Zh (a:eH b):DM (b,())=Y (lK b,()):=by unfold DM lK;refine aj (Lm a) ?_;grind
theorem yz (a:Z):0<=gS a/\gS a<4503599627370496:=by grind [gS]
theorem Bp (a:Z):0<=cH a/\cH a<2048:=by grind [cH]
theorem qT (g:eH b):ld (b,())=Y (aw (a6 b),()):=by
 unfold ld a6;have o:=yz b;have n:=Bp b;refine aj (Lm g) ?_;dsimp only;rw[gp,gp];by_cases e:cH b=2047
 ·rw[aI e,aB e];rfl
 rw[aD e,aA e];obtain⟨a,d,h,i,j,k,l,f⟩:∃a d,(bif bz (cH b=0) then some (Sum.inl ((-1074:Z),gS b,((false,((false,([],())),((0:Z),()))):e0),())) else some (.inl (az (cH b-1075),gM bG (gS b) 4503599627370496,(false,((false,([],())),((0:Z),()))),())):bA ((Z×Z×e0×bw)⊕gL))=some (.inl (d,a,(false,((false,([],())),((0:Z),()))),()))/\0<=a/\a<9007199254740992/\-1074<=d/\d<=972/\(a=(if cH b=0 then gS b else gS b+4503599627370496)/\d=(if cH b=0 then-1074 else cH b-1075)):=by
  by_cases c:cH b=0
  ·refine⟨gS b,-1074,?_,aa,aa,aa,aa,by rw[aB c],by rw[aB c]⟩;grind
  refine⟨gS b+4503599627370496,cH b-1075,?_,aa,aa,aa,aa,by rw[aA c],by rw[aA c]⟩;rw[aD c,cF aa aa,nK 52 aa aa aa aa aa ab];rfl
 rw[<-f.1,<-f.2];refine aj h ?_;dsimp only;rw[cF aa aa];have m:aV a.natAbs<=53:=fZ.2 aa;refine aj (FH aa aa) ?_;refine aj (y:=((br,((br,([],())),((0:Z),()))),aY (if b<9223372036854775808 then a else-a),())) ?_ ?_
 ·refine aj (aan g) ?_;dsimp only;by_cases c:b<9223372036854775808
  ·grind
  rw[aI (aa:9223372036854775808<=b),aA c];exact aj (QS (jU aa)) rfl
 dsimp only;refine aj (BL ?_ aa aa) rfl;grind
def pJ (d:bD) (a:X) (b:Z) (c:bD):xD:=(d,aY (a:Z),b,c,())
theorem o6 (a:X):(a:Z).natAbs=a:=by omega
theorem ZO (e:aV a<=900000) (c:-10000000<=b) (d:b<=10000000):DJ (pJ l a b h,())=Y (b+aV a-1,()):=by unfold DJ pJ;refine aj (xK (jU ae)) ?_;grind [cF,o6]
theorem W8 (o:aV a<=900000) (u:0<a) (B:0<c) (C:c<=10000000):Ar (pJ l a b h,(c:Z),())=Y (aY ((a/2^c:X):Z),la a c h,bz (a %2^c=0)&&!h,()):=by
 unfold Ar pJ;refine aj (xK (jU ae)) ?_;rw[o6];dsimp only;have D:=amN c;rw[cW];split
 ·rename_i q;have r:a<2^(c-1):=fZ.1 aa;obtain⟨d,rfl⟩:∃d,c=d+1:=⟨c-1,aa⟩;simp only[aoX] at r;have ax:a %2^(d+1)=a:=Nat.mod_eq_of_lt aa;have g:a/2^(d+1)=0:=an7 aa;rw[ax,g];have i:la a (d+1) h=-1:=(by unfold la;omega);rw[i,aD (aa:¬a=0)];rfl
 rename_i q;have w:=anI a (2^c);have E:aV (a/2^c)<=900000:=cu (lC (ann _ _)) o;have F:aV (a %2^c)<=900000:=cu (lC (ao2 _ _)) o;have s:a/2^c*2^c<=a:=Nat.div_mul_le_self _ _;refine aj (SN (m:=(a:Z)) (n:=c) ae aa) ?_;have ax:(a:Z)/2^c=((a/2^c:X):Z):=ae;rw[ax];refine aj (BF (m:=((a/2^c:X):Z)) (k:=(c:Z)) ae aa aa) ?_;have g:((a/2^c:X):Z)*2^(c:Z).toNat=((a/2^c*2^c:X):Z):=ae;rw[g];refine aj (agi (x:=(a:Z)) (y:=((a/2^c*2^c:X):Z)) ae (by rw[o6];exact cu (lC s) aa)) ?_;have i:(a:Z)-((a/2^c*2^c:X):Z)=((a %2^c:X):Z):=ae;rw[i];refine aj (FH (n:=1) ab ab) ?_;dsimp only;rw[cF (x:=(c:Z)-1) aa aa];refine aj (BF (m:=1) (k:=(c:Z)-1) ab aa aa) ?_;obtain⟨d,rfl⟩:∃d,c=d+1:=⟨c-1,aa⟩;have p:(1:Z)*2^(((d+1:X):Z)-1).toNat=((2^d:X):Z):=ae;rw[p];have A:aV (2^d)<=900000:=(by have:aV (2^d)<=d+1:=fZ.2 (apS ab aa);omega);refine aj (Od (x:=((a %2^(d+1):X):Z)) (y:=((2^d:X):Z)) ae ae) ?_;dsimp only;have v:(if fo ((a %2^(d+1):X):Z) ((2^d:X):Z)=0/\h=bt then 1 else fo ((a %2^(d+1):X):Z) ((2^d:X):Z))=la a (d+1) h:=by
  unfold la fo;have t:2^(d+1)=2*2^d:=aa;generalize a %2^(d+1)=f at*;rw[t];generalize 2^d=e at*;rcases sO f e with j|j|j
  ·rw[aB (aa:(f:Z)<(e:Z)),aA ac,aB aa]
  ·grind
  rw[aA (aa:¬((f:Z)<(e:Z))),aB (aa:(e:Z)<(f:Z)),aA ac,aA aa,aB aa]
 refine aj (y:=(la a (d+1) h,aY ((a/2^(d+1):X):Z),aY ((a %2^(d+1):X):Z),())) ?_ ?_
 ·grind
 refine aj (uy (z:=((a %2^(d+1):X):Z)) (jU ae)) ?_;grind [aD,aI,jA]
theorem BW {n:X}:(n≠0/\db n=0)↔n %2=1:=by
 constructor
 ·rintro⟨b,c⟩;have:=wd (n:=n) (k:=1) aa;omega
 intro a;refine⟨aa,?_⟩;have:=wd (n:=n) (k:=1) aa;omega
theorem aai (m:aV a<=900000) (w:0<a) (G:-1000000<=b-e) (H:b-e<=1000000):DK (pJ l a b h,e,v,())=Y (aY (if l then-((if e<=b then a*2^(b-e).toNat else jk l a (e-b).toNat h v:X):Z) else((if e<=b then a*2^(b-e).toNat else jk l a (e-b).toNat h v:X):Z)),()):=by
 unfold DK;have k:∀d:X,aV d<=2000000->(bE (α:=lA) (
  bif l then
 (tj (aY (d:Z),())).bind λ(E,_)=>
 Y (((br,([],())):eU),E,()) else
 Y ((br,([],())),aY (d:Z),())) λ(_,D,_)=>
 Y (D,()))=Y (aY (if l then-(d:Z) else(d:Z)),()):=λd J=>by
  cases l
  ·rfl
  refine aj (y:=((br,([],())),aY (-(d:Z)),())) ?_ bq;have I:Fit (d:Z)\/True:=.inr trivial;have o:=ik (z:=(d:Z)) ae;refine aj (y:=(aY (-(d:Z)),())) ?_ bq;unfold tj;refine aj (Am (by have:=o.2.2;omega)) (aj (xI (m3 _) (by have:=o.2.2;omega)) ?_);grind [pg,Hk]
 by_cases i:e<=b
 ·rw[aB i];obtain⟨c,f⟩:∃c:X,b-e=c:=⟨(b-e).toNat,aa⟩;rw[f,gg];refine aj (y:=((-1:Z),bt,(br,([],())),aY ((a*2^c:X):Z),())) ?_ ?_
  ·show(bif bz (e<=b) then _ else _)=_;rw[aI i];refine aj (y:=(aY ((a*2^c:X):Z),())) ?_ bq;show oT (aY (a:Z),az (b-e),())=_;rw[cF aa aa,BF (by grind [o6]) aa aa,f,gg,uP,za]
  refine aj bq (aj bq ?_);exact k _ (dk Ag aa)
 rw[aA i];obtain⟨c,f⟩:∃c:X,e-b=c:=⟨(e-b).toNat,aa⟩;rw[f,gg];refine aj (y:=(la a c h,bz (a %2^c=0)&&!h,(br,([],())),aY ((a/2^c:X):Z),())) ?_ ?_
 ·show(bif bz (e<=b) then _ else _)=_;rw[aD i];refine aj (y:=(aY ((a/2^c:X):Z),la a c h,bz (a %2^c=0)&&!h,())) ?_ bq;show Ar (pJ l a b h,az (e-b),())=_;rw[cF aa aa,f];exact W8 m w aa aa
 have A:aV (a/2^c)<=900000:=dk (lC (ann _ _)) m;refine aj (y:=(!(bz (a %2^c=0)&&!h)&&w2 l (la a c h) (bz (a/2^c %2=1)) v,(br,([],())),aY ((a/2^c:X):Z),())) ?_ ?_
 ·dsimp only;cases q:(bz (a %2^c=0)&&!h) with
  |true=>rfl
  |false=>
   show(bif v==1 then Y (l,_,_,()) else _)=_;unfold w2;rw[gp,gp,gp];by_cases r:v=1
   ·grind
   rw[aD r,aA r];by_cases j:v=2
   ·rw[aI j,aB j];rfl
   rw[aD j,aA j];by_cases s:v=3
   ·grind
   rw[aD s,aA s];generalize la a c h=g;show(bif bz (g>0)==br then _ else _)=_;by_cases u:g>0
   ·grind
   rw[aD u];show(bif (g==0)==bt then _ else _)=_;rw[gp];by_cases t:g=0
   ·rw[aI t];refine aj (uy (z:=((a/2^c:X):Z)) (jU (by grind [o6]))) ?_;dsimp only;have K:=BW (n:=a/2^c);rw[fJ];by_cases F:a/2^c=0
    ·rw[aI (show gI ((a/2^c:X):Z)=0 by rw[F];rfl),aD (aa:¬(a/2^c %2=1))];rfl
    have B:gI ((a/2^c:X):Z)≠0:=(by unfold gI;omega);rw[aD B];refine aj (Ue (z:=((a/2^c:X):Z)) (jU (by grind [o6])) aa) ?_;rw[o6];simp_all [aD,aI,gp,db]
   grind
 dsimp only;refine aj (y:=((br,([],())),aY ((jk l a c h v:X):Z),())) ?_ ?_
 ·unfold jk;by_cases q:a %2^c=0/\h=br
  ·simp_all
  have C:(bz (a %2^c=0)&&!h)=br:=ae;rw[aA q,C];by_cases p:w2 l (la a c h) (bz (a/2^c %2=1)) v=bt
  ·rw[aB p,p];refine aj (FH (n:=1) ab ab) ?_;refine aj (H0 (x:=((a/2^c:X):Z)) (y:=1) (by grind [o6]) ab) ?_;rfl
  simp_all
 refine k _ ?_;have:jk l a c h v<=a/2^c+1:=(by unfold jk;grind);exact dk (lC this) (dk (Ig A (ab:aV 1<=900000)) aa)
def CC (a:0<=b) (c:b<9223372036854775808):vw (b,h,())=Y (ni h b,()):=by
 unfold vw ni;cases h
 ·rfl
 dsimp only;rw[nK 63 a (by exact c) ab aa ab ab,anW];rfl
theorem R6:DQ (h,b,())=Y (sj h b,()):=by
 unfold DQ sj;dsimp only;refine aj (y:=if(b=3\/(b=1/\h=br)\/(b=2/\h=bt)) then .inr (ni h 9218868437227405311,()) else .inl ()) ?_ ?_
 ·refine aj (y:=(bz (b=3\/(b=1/\h=br)\/(b=2/\h=bt)),())) ?_ ?_
  ·rw[gp,gp,gp];by_cases e:b=3
   ·grind
   by_cases c:b=1
   ·grind
   by_cases d:b=2
   ·simp_all
   grind
  dsimp only;by_cases a:(b=3\/(b=1/\h=br)\/(b=2/\h=bt))
  ·rw[aI a,aB a];exact aj (CC ab ab) rfl
  grind
 by_cases a:(b=3\/(b=1/\h=br)\/(b=2/\h=bt))
 ·rw[aB a,aB a]
 rw[aA a,aA a];exact aj (CC ab ab) rfl
theorem Mp {neg wu:bD} {e pQ:Z} (d:0<a):(if eR a e<=e then a*2^(e-eR a e).toNat else jk neg a (eR a e-e).toNat wu pQ)<=9007199254740992:=by
 have f:=fZ.1 (bg (aV a));have h:=qv d;have i:e+aV a-53<=eR a e:=(by grind [eR]);split
 ·rename_i c;have b:a*2^(e-eR a e).toNat<2^aV a*2^(e-eR a e).toNat:=Nat.mul_lt_mul_of_pos_right f (j4 _);rw[<-k3] at b;have g:2^(aV a+(e-eR a e).toNat)<=2^53:=u0 ab aa;omega
 rename_i c;have b:a/2^(eR a e-e).toNat<2^53:=(by rw[anH (j4 _),<-k3];grind [Nat.lt_of_lt_of_le,Nat.pow_le_pow_right]);grind [jk]
theorem S0 (r:aV a<=800000) (i:0<a) (p:-500000<=b) (q:b<=500000):Au (pJ h a b l,v,())=Y (mJ h a b l v,()):=by
 have s:=qv i;have t:=Mp (neg:=h) (wu:=l) (pQ:=v) (e:=b) i;have n:mJ h a b l v=pT h (if eR a b<=b then a*2^(b-eR a b).toNat else jk h a (eR a b-b).toNat l v) (eR a b) v:=(by grind [mJ]);have o:eR a b=if(-1074:Z)>b+aV a-1-52 then-1074 else b+aV a-1-52:=by grind [eR]
 have w:-1074<=eR a b:=aa;have A:eR a b<=1400000:=aa;unfold Au;refine aj (ZO aa aa aa) ?_;dsimp only;rw[cF aa aa,<-o,n];refine aj (aai aa i ?_ ?_) ?_
 ·omega
 ·omega
 generalize(if eR a b<=b then a*2^(b-eR a b).toNat else jk h a (eR a b-b).toNat l v)=c at*;generalize eR a b=d at*;have u:aV c<=54:=fZ.2 aa;have m:(if h then-(c:Z) else(c:Z)).natAbs=c:=aa;refine aj (z9 (jU ae)) ?_;rw[m];refine aj (Y5 (z:=(c:Z)) aa aa) ?_;dsimp only;rw[fM (x:=(c:Z)) aa aa,gp];show bE _ _=Y (pT h c d v,());unfold pT;by_cases j:c=9007199254740992
 ·rw[aI (aa:(c:Z)=9007199254740992),aA (aa:¬c<4503599627370496),aB j];refine aj (y:=(d+1,4503599627370496,())) ?_ ?_
  ·grind [cx]
  dsimp only;rw[aD (aa:¬((4503599627370496:Z)<4503599627370496)),cF aa aa,bR,cW];split
  ·rename_i g;exact aj R6 bq
  rename_i g;rw[fM aa aa,ou ab ab,show(2:Z)^(52:Z).toNat=4503599627370496 from rfl,aF];have ax:aR (4503599627370496-4503599627370496)=0:=(by grind [fM]);have f:(d+1+1075)*4503599627370496 %18446744073709551616=(d+1+1075)*4503599627370496:=aa;rw[ax,f,B5,nK 52 ab ab aa ab aa aa,amv];exact aj (CC aa aa) rfl
 rw[aD (aa:¬(c:Z)=9007199254740992)];refine aj (y:=(d,(c:Z),())) rfl ?_;dsimp only;rw[cW];by_cases k:c<4503599627370496
 ·rw[aB (aa:(c:Z)<4503599627370496),aB k];exact aj (CC aa aa) rfl
 rw[aA (aa:¬(c:Z)<4503599627370496),aA k,aA j,cF aa aa,cW];split
 ·rename_i g;exact aj R6 bq
 rename_i g;rw[fM (x:=d+1075) aa aa,ou ab ab,show(2:Z)^(52:Z).toNat=4503599627370496 from rfl,bM,fM (x:=(c:Z)-4503599627370496) aa aa];have f:(d+1075)*4503599627370496 %18446744073709551616=(d+1075)*4503599627370496:=aa;rw[f,B5,nK 52 aa aa aa aa aa aa];refine aj (CC aa aa) ?_;dsimp only;congr 3;omega
def gN (c d:ak1) (e:Z):Z:=match c,d with
 |some a,Y b=>if b=0 then 9221120237041090560 else if a=0 then 0 else wK a b e
 |_,_=>9221120237041090560
def GY (b:ak1) (c:Z):Z:=match b with
 |some a=>if a<0 then 9221120237041090560 else if a=0 then 0 else LI a c
 |none=>9221120237041090560
def yZ (a:Z):(aY (cR a)).1=bz (a<0):=by show bz (cR a<0)=_;rw[cy];exact Gm
theorem aeN (h:fB b) (i:fB e) (z:b≠0) (A:e≠0) (j:Z):∃c d k,DI (aw (Y b),aw (Y e),56,())=Y (pJ (bz (b<0)!=bz (e<0)) c d k,())/\0<c/\aV c<=800000/\-500000<=d/\d<=500000/\mJ (bz (b<0)!=bz (e<0)) c d k j=wK b e j:=by
 have q:=jZ h;have r:=jZ i;have s:=kq h;have t:=kq i;have n:0<(cR b).natAbs:=(by grind [jW]);have o:0<(cR e).natAbs:=(by grind [jW]);obtain⟨a,p⟩:∃a,a=nL (cR b).natAbs (cR e).natAbs:=⟨_,bq⟩;have v:a<=131131:=(by grind [nL]);have g:58<=aV ((cR b).natAbs*2^a/(cR e).natAbs):=GO n o (by grind [nL]);have u:aV ((cR b).natAbs*2^a)<=262203:=(by grind [Ag]);refine⟨(cR b).natAbs*2^a/(cR e).natAbs,dc b-a-dc e,bz ((cR b).natAbs*2^a %(cR e).natAbs≠0),?_,?_,?_,aa,aa,?_⟩
 ·unfold DI;rw[g5,g5];refine aj (xK (jU aa)) (aj (xK (jU aa)) (aj (z9 (jU aa)) ?_));dsimp only;have ax:(if az (az (az (56+3)+(aV (cR e).natAbs:Z))-(aV (cR b).natAbs:Z))>0 then az (az (az (56+3)+(aV (cR e).natAbs:Z))-(aV (cR b).natAbs:Z)) else 0)=(a:Z):=by
   grind [cF,nL,aV,cR]
  rw[ax];refine aj (BF (m:=((cR b).natAbs:Z)) ae aa aa) (aj (z9 (jU aa)) ?_);have l:((cR b).natAbs:Z)*2^(a:Z).toNat=(((cR b).natAbs*2^a:X):Z):=ae;rw[l];refine aj (Xm (x:=(((cR b).natAbs*2^a:X):Z)) (y:=((cR e).natAbs:Z)) ae ae aa aa) ?_;rw[<-an6,<-aqh];have w:aV ((cR b).natAbs*2^a %(cR e).natAbs)<=900000:=cu (lC (ao2 _ _)) aa;refine aj (uy (jU ae)) ?_;dsimp only;rw[cF (x:=dc b-(a:Z)) aa aa,cF aa aa,yZ,yZ];grind [jA,aI,aD,gI,cR,decide,pJ]
 ·rcases qj ((cR b).natAbs*2^a/(cR e).natAbs) with f|f
  ·rw[f] at g;exact absurd g ab
  omega
 ·exact dk (lC (ann _ _)) aa
 unfold wK sn;rw[<-p];congr 1;unfold dc;omega
theorem Yg (e:cN m) (d:cN j):td (aw m,aw j,b,())=Y (gN m j b,()):=by
 unfold td;refine aj (Fl e) (aj (Fl d) ?_);dsimp only;rw[rW,rW];cases m with
 |none=>cases j<;>rfl
 |some c=>
  cases j with
  |none=>rfl
  |some a=>
   by_cases f:a=0
   ·subst f;refine aj (y:=.inr (9221120237041090560,())) ?_ bq;refine aj (y:=(bt,aw (Y c),aw (Y 0),())) ?_ bq;refine aj (oX d) ?_;rfl
   by_cases g:c=0
   ·subst g;refine aj (y:=.inr (0,())) ?_ ?_
    ·refine aj (y:=(br,aw (Y 0),aw (Y a),())) ?_ ?_
     ·refine aj (oX d) ?_;dsimp only;rw[show kW (Y a)=gI a from rfl,jA,aD f]
     refine aj (oX e) ?_;rfl
    simp_all [aA,gN]
   obtain⟨h,i,r,k,l,n,o,p,q⟩:=aeN (e c bq) (d a bq) g f b;refine aj (y:=.inl (aw (Y c),aw (Y a),())) ?_ ?_
   ·refine aj (y:=(br,aw (Y c),aw (Y a),())) ?_ ?_
    ·refine aj (oX d) ?_;dsimp only;rw[show kW (Y a)=gI a from rfl,jA,aD f]
    refine aj (oX e) ?_;dsimp only;rw[show kW (Y c)=gI c from rfl,jA,aD g];rfl
   simp_all [aj,S0,aA,gN]
theorem afx:rP (aY 0,())=Y (0,()):=by
 unfold rP;refine aj (uu (l:=[]) alQ (λf b=>by cases b) ab) ?_;refine bQ.1 (ah.aJ (P:=λd=>d=.inl ()) ?_ ?_)
 ·refine ah.steps 0 (λc a=>a=((0:Z),())) rfl (λc a e=>by omega) ?_;grind [bu]
 grind [bu]
theorem SW {n:X} (c:aV n<=900000):∃a,rP (aY (n:Z),())=Y (a,())/\((a=0/\n≠0)↔n %2=1):=by
 by_cases b:n=0
 ·grind [afx]
 refine⟨(db n:Z),?_,?_⟩
 ·grind [o6,S8]
 grind [BW]
theorem agO:EW (h,b,l,e,())=Y (w2 h b l e,()):=by unfold EW w2;grind
theorem aeT (q:aV a<=800000) (C:c<=1000000):ET (l,aY (a:Z),(c:Z),h,b,())=Y (aY ((jk l a c h b:X):Z),()):=by
 unfold ET;have f:∀e:X,(a:Z)/2^e=((a/2^e:X):Z):=λe=>(by rw[<-za,<-an6]);have o:∀e:X,bz (((a:Z).natAbs:Z) %2^e≠0)=bz (a %2^e≠0):=λe=>ae;have E:∀e,aV (a/2^e)<=800000:=λe=>cu (lC (ann _ _)) q;refine aj (LC (m:=(a:Z)) (n:=c) ae aa) ?_;rw[f];refine aj (SO (z:=(a:Z)) (n:=c) ae aa) ?_;rw[o];dsimp only;by_cases v:a %2^c=0/\h=br
 ·simp_all [aB,aD,aj,jk,aY]
 refine aj (y:=.inl ((br,([],())),aY ((a/2^c:X):Z),())) ?_ ?_
 ·grind
 dsimp only;refine aj (y:=(la a c h,(br,([],())),aY ((a/2^c:X):Z),())) ?_ ?_
 ·rw[cW];split
  ·rename_i p;obtain⟨d,rfl⟩:∃d,c=d+1:=⟨c-1,aa⟩;have k:az (((d+1:X):Z)-1)=(d:Z):=(by grind [cF]);rw[k];refine aj (LC (m:=(a:Z)) (n:=d) ae aa) ?_;rw[f];obtain⟨j,g,t⟩:=SW (n:=a/2^d) ae;have r:=KG a d 1;rw[Nat.pow_one] at r;have B:=amm a (j4 d);have D:2^(d+1)=2*2^d:=aa;refine aj (y:=(bz (a/2^d %2=1),(br,([],())),aY ((a/2^(d+1):X):Z),())) ?_ ?_
   ·refine aj g ?_;dsimp only;rw[gp];by_cases w:j=0
    ·rw[aI w];refine aj (lq (z:=((a/2^d:X):Z)) ae) ?_;grind [jA,aI,aD]
    grind
   dsimp only;unfold la;by_cases s:a/2^d %2=1
   ·rw[aI s];have u:a %2^(d+1)=2^d+a %2^d:=ae;rw[u,aA aa];cases h
    ·show(bE _ _)=_;refine aj (SO (z:=(a:Z)) (n:=d) ae aa) ?_;grind
    grind
   grind
  rename_i p;obtain rfl:c=0:=aa;simp_all [aB,Nat.pow_zero,Nat.mod_one,la]
 dsimp only;obtain⟨j,g,t⟩:=SW (n:=a/2^c) ae;refine aj (y:=(bz (a/2^c %2=1),(br,([],())),aY ((a/2^c:X):Z),())) ?_ ?_
 ·refine aj (lq (z:=((a/2^c:X):Z)) ae) ?_;dsimp only;have A:(gI ((a/2^c:X):Z)!=0)=bz (a/2^c≠0):=by
   grind [aD,aI,jA]
  grind
 dsimp only;refine aj (y:=((br,([],())),aY ((jk l a c h b:X):Z),())) ?_ bq;refine aj agO ?_;dsimp only;unfold jk;rw[ck v];by_cases i:w2 l (la a c h) (bz (a/2^c %2=1)) b=bt
 ·rw[aB i,i];refine aj (LH (n:=1) ab ab) ?_;refine aj (Cf (x:=((a/2^c:X):Z)) (y:=1) ae ab) ?_;rfl
 grind
def Cs (a:0<=b) (c:b<9223372036854775808):rQ (h,b,())=Y (ni h b,()):=by
 unfold rQ ni;cases h
 ·rfl
 dsimp only;rw[nK 63 a (by exact c) ab aa ab ab,anW];rfl
theorem S1:A2 (h,b,())=Y (sj h b,()):=by
 unfold A2 sj;dsimp only;refine aj (y:=if(b=3\/(b=1/\h=br)\/(b=2/\h=bt)) then .inr (ni h 9218868437227405311,()) else .inl ()) ?_ ?_
 ·refine aj (y:=(bz (b=3\/(b=1/\h=br)\/(b=2/\h=bt)),())) ?_ ?_
  ·rw[gp,gp,gp];by_cases e:b=3
   ·grind
   by_cases c:b=1
   ·grind
   by_cases d:b=2
   ·simp_all
   grind
  dsimp only;by_cases a:(b=3\/(b=1/\h=br)\/(b=2/\h=bt))
  ·rw[aI a,aB a];exact aj (Cs ab ab) rfl
  grind
 by_cases a:(b=3\/(b=1/\h=br)\/(b=2/\h=bt))
 ·rw[aB a,aB a]
 rw[aA a,aA a];exact aj (Cs ab ab) rfl
theorem agN {neg wu:bD} {e pQ:Z} (c:0<a) (j:-1074<eR a e):4503599627370496<=(if eR a e<=e then a*2^(e-eR a e).toNat else jk neg a (eR a e-e).toNat wu pQ):=by
 obtain⟨f,h⟩:=xL c;have i:=qv c;have k:eR a e=e+aV a-53:=(by grind [eR]);have g:(2:X)^52=4503599627370496:=ab;split
 ·rename_i d;have b:2^(aV a-1)*2^(e-eR a e).toNat<=a*2^(e-eR a e).toNat:=iX _ f;rw[<-k3] at b;grind
 rename_i d;have b:2^52<=a/2^(eR a e-e).toNat:=(by rw[apU (j4 _),<-k3];grind);grind [jk]
theorem S5 (s:aV a<=800000) (j:0<a) (C:-500000<=b) (D:b<=500000) (H:l=bt->54<=aV a):A3 (h,aY (a:Z),b,l,v,())=Y (mJ h a b l v,()):=by
 have E:=qv j;have F:=Mp (neg:=h) (wu:=l) (pQ:=v) (e:=b) j;have p:=agN (neg:=h) (wu:=l) (pQ:=v) (e:=b) j;have q:mJ h a b l v=pT h (if eR a b<=b then a*2^(b-eR a b).toNat else jk h a (eR a b-b).toNat l v) (eR a b) v:=(by grind [mJ]);have r:eR a b=if(-1074:Z)>b+aV a-1-52 then-1074 else b+aV a-1-52:=by grind [eR]
 have I:-1074<=eR a b:=aa;have J:eR a b<=1400000:=aa;have w:-1000000<=eR a b-b:=aa;have A:eR a b-b<=1000000:=aa;unfold A3;refine aj (Cg (z:=(a:Z)) ae) ?_;rw[o6];dsimp only;rw[cF (x:=b+(aV a:Z)) aa aa,cF (x:=b+(aV a:Z)-1) aa aa,cF (x:=b+(aV a:Z)-1-52) aa aa,<-r,q,cW];split
 ·rename_i t;have K:972<=eR a b:=aa;have p:=p aa;refine aj S1 ?_;clear r q w A;generalize(if eR a b<=b then a*2^(b-eR a b).toNat else jk h a (eR a b-b).toNat l v)=d at*;unfold pT;grind
 rename_i t;refine aj (y:=(aY ((if eR a b<=b then a*2^(b-eR a b).toNat else jk h a (eR a b-b).toNat l v:X):Z),())) ?_ ?_
 ·rw[cW];split
  ·rename_i g;obtain⟨f,k⟩:∃f:X,eR a b-b=f:=⟨(eR a b-b).toNat,aa⟩;rw[cF (x:=eR a b-b) aa aa,k,alO];refine aj (aeT s aa) ?_;dsimp only;by_cases B:eR a b<=b
   ·have u:f=0:=aa;have G:l=br:=by
     grind
    rw[aB B,u];unfold jk;grind
   grind
  rename_i g;obtain⟨f,k⟩:∃f:X,b-eR a b=f:=⟨(b-eR a b).toNat,aa⟩;rw[cF (x:=b-eR a b) aa aa,aB aa,k,gg];refine aj (LK (z:=(a:Z)) (n:=f) ae aa) ?_;grind
 generalize(if eR a b<=b then a*2^(b-eR a b).toNat else jk h a (eR a b-b).toNat l v)=d at*;generalize eR a b=c at*;dsimp only;refine aj (aff (z:=(d:Z)) aa aa) ?_;dsimp only;rw[gp];unfold pT;by_cases m:d=9007199254740992
 ·rw[aI (aa:(d:Z)=9007199254740992),aA (aa:¬d<4503599627370496),aB m];refine aj (y:=(c+1,4503599627370496,())) ?_ ?_
  ·grind [cx]
  dsimp only;rw[cF (x:=c+1+53) aa aa,aI (aa:(4503599627370496:Z)>=4503599627370496)];by_cases g:c+1+1075>=2047
  ·rw[aB g];refine aj (y:=.inr (sj h v,())) ?_ bq;refine aj (y:=(bt,())) ?_ (aj S1 bq);grind
  rw[aA g];refine aj (y:=.inr (ni h ((c+1+1075)*4503599627370496),())) ?_ bq;refine aj (y:=(br,())) ?_ ?_
  ·grind
  dsimp only;rw[cF (x:=c+1+1075) aa aa,fM (x:=c+1+1075) aa aa,ou ab ab,show(2:Z)^(52:Z).toNat=4503599627370496 from rfl];have ax:aR (az (4503599627370496-4503599627370496))=0:=(by grind [cF,fM]);have i:(c+1+1075)*4503599627370496 %18446744073709551616=(c+1+1075)*4503599627370496:=aa;rw[ax,i];show((rQ (h,gM bG ((c+1+1075)*4503599627370496) 0,())).bind _)=_;rw[B5,nK 52 ab ab aa ab aa aa,amv];exact aj (Cs aa aa) rfl
 rw[aD (aa:¬(d:Z)=9007199254740992)];refine aj (y:=(c,(d:Z),())) rfl ?_;dsimp only;rw[cF (x:=c+53) aa aa];by_cases o:d<4503599627370496
 ·rw[aD (aa:¬((d:Z)>=4503599627370496)),aB o,fM (x:=(d:Z)) aa aa];refine aj (y:=.inl ()) ?_ ?_
  ·grind
  exact aj (Cs aa aa) rfl
 rw[aI (aa:((d:Z)>=4503599627370496)),aA o,aA m];by_cases g:c+1075>=2047
 ·omega
 rw[aA g];refine aj (y:=.inr (ni h ((c+1075)*4503599627370496+((d:Z)-4503599627370496)),())) ?_ bq;refine aj (y:=(br,())) ?_ ?_
 ·grind
 dsimp only;rw[cF (x:=c+1075) aa aa,fM (x:=c+1075) aa aa,ou ab ab,show(2:Z)^(52:Z).toNat=4503599627370496 from rfl];have ax:aR (az ((d:Z)-4503599627370496))=(d:Z)-4503599627370496:=(by grind [cF,fM]);have i:(c+1075)*4503599627370496 %18446744073709551616=(c+1075)*4503599627370496:=aa;rw[ax,i];show((rQ (h,gM bG ((c+1075)*4503599627370496) ((d:Z)-4503599627370496),())).bind _)=_;rw[B5,nK 52 aa aa aa aa aa aa];refine aj (Cs aa aa) ?_;grind
theorem Np (a:eH b):eT bG b 52=Y (b/4503599627370496)/\e3 bG (b/4503599627370496) 2047=cH b/\e3 bG b 4503599627370495=gS b:=by
 have c:=a.1;have d:=a.2;refine⟨?_,?_,?_⟩
 ·grind [ux]
 ·rw[sW 11 aa aa 2047 ab ab];rfl
 rw[sW 52 aa aa 4503599627370495 ab ab];rfl
theorem wQ (a:eH b):pI (b,())=Y (!bz (cH b=2047),()):=by simp_all [fJ,aj,Np,pI]
theorem afg (a:eH b):EY (b,())=Y (bz (9223372036854775808<=b),()):=by grind [NJ,EY]
theorem jN (g:eH e):jJ (e,())=Y (aw (a6 e),()):=by
 obtain⟨i,j,k⟩:=Np g;have t:=yz e;have s:=Bp e;unfold jJ a6;refine aj (wQ g) ?_;dsimp only;by_cases f:cH e=2047
 ·rw[aI f,aB f];rfl
 rw[aD f,aA f,show(!!br)=br from rfl,bR,i,aF,j,k,cF (x:=cH e) aa aa];obtain⟨a,c,l,n,o,p,q,h⟩:∃a c,(bif bz (cH e>0) then some (gM bG (gS e) 4503599627370496,az (cH e-1075),((false,((false,([],())),((0:Z),()))):e0),()) else some (gS e,(-1074:Z),(false,((false,([],())),((0:Z),()))),()))=some (a,c,(false,((false,([],())),((0:Z),()))),())/\0<=a/\a<9007199254740992/\-1074<=c/\c<=972/\(a=(if cH e=0 then gS e else gS e+4503599627370496)/\c=(if cH e=0 then-1074 else cH e-1075)):=by
  by_cases d:cH e=0
  ·refine⟨gS e,-1074,?_,aa,aa,aa,aa,by rw[aB d],by rw[aB d]⟩;grind
  refine⟨gS e+4503599627370496,cH e-1075,?_,aa,aa,aa,aa,by rw[aA d],by rw[aA d]⟩;rw[aI (aa:cH e>0),cF aa aa,nK 52 aa aa aa aa aa ab];rfl
 rw[<-h.1,<-h.2];refine aj l ?_;dsimp only;refine aj (afg g) ?_;rw[nM,bM];dsimp only;rw[p1 a,lV (x:=a/4294967296) aa aa];have r:aV a.natAbs<=53:=fZ.2 aa;refine aj (SP (b:=(bz (9223372036854775808<=e),[a %4294967296,a/4294967296],())) (m:=if e<9223372036854775808 then a else-a) (al5.2 ⟨⟨aa,aa⟩,al5.2 ⟨⟨aa,aa⟩,alQ⟩⟩) ac ?_ ?_ aa aa) rfl
 ·unfold hJ;simp only[ak];grind
 grind
def lS (a:ak1) (b:Z):Z:=match a with
 |none=>9221120237041090560
 |some c=>ze c b
theorem LJ (d:cN j):ym (aw j,b,())=Y (lS j b,()):=by
 unfold ym;refine aj (nf d) ?_;dsimp only;rw[rW];cases j with
 |none=>rfl
 |some a=>
  have e:=d a bq;have h:=jZ e;have i:=kq e;rw[g5];refine aj (lq aa) ?_;dsimp only;rw[jA];unfold lS ze;by_cases c:a=0
  ·subst c;rw[aI (show cR 0=0 from rfl)];rfl
  rw[aD (jW c)];simp only;rw[ck c,bR];have g:0<(cR a).natAbs:=(by grind [jW]);refine aj (Ce aa) ?_;dsimp only;rw[yZ];refine aj (S5 aa g aa aa (λf=>by cases f)) ?_;simp_all [ck,dc]
theorem tR (a:Z):cN (iv a):=KE a 0
def afc (a:-9223372036854775808<=b) (c:b<=9223372036854775807):EX (b,e,())=Y (lS (iv b) e,()):=by unfold EX;exact aj (Cj a c) (aj (LJ (tR b)) rfl)
theorem afr (g:0<a) (h:0<c) (e:aV a<=131072) (f:aV c<=131072):∃b,nL a c<=b/\b<=140000/\EV (aY (a:Z),aY (c:Z),60,())=Y (aY ((a*2^b/c:X):Z),-(b:Z),bz (a*2^b %c≠0),()):=by obtain⟨b,i⟩:∃b,b=62+aV c-aV a:=⟨_,bq⟩;have j:b<=131134:=aa;have k:aV (a*2^b)<=262206:=(by grind [Ag]);refine⟨b,by grind [nL],aa,?_⟩;unfold EV;refine aj (Cg (z:=(c:Z)) ae) (aj (Cg (z:=(a:Z)) ae) ?_);rw[o6,o6];dsimp only;have ax:(if 0>az (az (az (60+2)+(aV c:Z))-(aV a:Z)) then 0 else az (az (az (60+2)+(aV c:Z))-(aV a:Z)))=(b:Z):=(by grind [cF]);rw[ax];refine aj (LK (z:=(a:Z)) (n:=b) ae aa) ?_;have d:(a:Z)*2^b=((a*2^b:X):Z):=ae;rw[d];refine aj (ae1 (x:=((a*2^b:X):Z)) (y:=(c:Z)) ae ae aa aa) ?_;rw[<-an6,<-aqh];have l:aV (a*2^b %c)<=900000:=cu (lC (ao2 _ _)) aa;refine aj (lq ae) ?_;grind [jA,aI,aD,cF,ao1]
theorem afe (f:cN m) (g:cN j):EZ (aw m,aw j,b,())=Y (gN m j b,()):=by
 unfold EZ;refine aj (nf f) (aj (nf g) ?_);dsimp only;rw[rW,rW];cases m with
 |none=>cases j<;>rfl
 |some c=>
  cases j with
  |none=>rfl
  |some a=>
   have p:=jZ (f c bq);have q:=jZ (g a bq);have w:=kq (f c bq);have A:=kq (g a bq);rw[g5,g5];by_cases h:a=0
   ·subst h;refine aj (y:=.inr (9221120237041090560,())) ?_ bq;exact aj (lq (z:=cR 0) ab) rfl
   refine aj (y:=.inl ((br,aY (cR c),dc c,()),(br,aY (cR a),dc a,()),())) ?_ ?_
   ·refine aj (lq (z:=cR a) aa) ?_;grind [jA,aD,jW]
   dsimp only;refine aj (lq (z:=cR c) aa) ?_;dsimp only;rw[jA];unfold gN;simp only;rw[ck h];by_cases e:c=0
   ·subst e;rw[aI (show cR 0=0 from rfl)];rfl
   rw[aD (jW e),ck e,bR];have k:0<(cR c).natAbs:=(by grind [jW]);have l:0<(cR a).natAbs:=(by grind [jW]);refine aj (Ce aa) (aj (Ce aa) ?_);obtain⟨d,u,B,v⟩:=afr k l p q;refine aj v ?_;dsimp only;rw[cF (x:=dc c-dc a) aa aa,cF aa aa,yZ,yZ];have n:58<=aV ((cR c).natAbs*2^d/(cR a).natAbs):=GO k l (by grind [nL]);have s:0<(cR c).natAbs*2^d/(cR a).natAbs:=by
    rcases qj ((cR c).natAbs*2^d/(cR a).natAbs) with i|i
    ·rw[i] at n;exact absurd n ab
    omega
   have t:aV ((cR c).natAbs*2^d/(cR a).natAbs)<=800000:=cu (lC (ann _ _)) (by grind [Ag]);refine aj (S5 t s aa aa (λ_=>by omega)) ?_;have r:=aev (pQ:=b) e h u;dsimp only;rw[<-r];unfold sn;have o:dc c-dc a+-(d:Z)=hZ c-hZ a-d:=(by unfold dc;omega);rw[o];rfl
def qQ (a:Z) (b:X):X:=((a %18446744073709551616) %(b:Z)).toNat
theorem yY (a:Z) {n:X} (b:0<n):qQ a n<n:=by simp_all [p6,oy,qQ]
theorem wq (a:Z) {n:X} (c:0<n) (e:n<=9223372036854775807):qC (a,(n:Z),())=Y ((qQ a n:Z),()):=by unfold qC;have d:=yY a c;have b:(a %18446744073709551616) %(n:Z)=(qQ a n:Z):=(by unfold qQ;have:=ani (a %18446744073709551616) (aa:(n:Z)≠0);omega);dsimp only;rw[sy a,fM (x:=(n:Z)) aa aa,(GP (x:=a %18446744073709551616) (y:=(n:Z)) ⟨aa,aa⟩ aa).2,b];grind [CN]
theorem ahB (a b:Z):eH (uF bG a b):=by grind [CP,uF,eH]
theorem Mu (e:ak7) (i:e.length<=9223372036854775807) (h:Z):ah (vF (e,h,())) (λb=>eH b.1):=by
 have f:∀a b:Z,0<=b->∃c,eT bG a b=Y c:=λa b d=>(by unfold eT;simp_all);unfold vF;dsimp only;refine ah.aJ (P:=λ_=>True) ?_ ?_
 ·rw[cW];refine ah.ite (λd=>?_) λd=>bu.2 trivial;simp_all [ah.bs,wq,eP,bu,trivial,yY,a7]
 rintro⟨a,_⟩ _;dsimp only;obtain⟨c,g⟩:=f a 31 ab;refine ah.bs g ?_;obtain⟨k,j⟩:=f (aR (uF bG a c*13787848793156543929)) 29 ab;grind [ah.bs,bu,ahB]
theorem Tt (a:0<=b) (c:b<9223372036854775808):eH (ni h b):=by grind [ni,eH]
theorem adQ (b:bD) (a:Z):eH (sj b a):=by grind [Tt,sj]
theorem adU (c:a<=9007199254740992) (d:-1074<=b):eH (pT h a b e):=by grind [adQ,Tt,pT]
theorem SQ (c:0<a):eH (mJ l a b h v):=by have d:=Mp (neg:=l) (wu:=h) (pQ:=v) (e:=b) c;grind [adU,mJ,pT,eR,jk]
def KH:eH 9221120237041090560:=⟨ab,ab⟩
theorem wS (a:ak1) (c:Z):eH (lS a c):=by
 unfold lS;cases a with
 |none=>exact KH
 |some d=>
  simp only;unfold ze;by_cases b:d=0
  ·rw[aB b];exact⟨ab,ab⟩
  simp_all [aA,SQ,jW]
theorem wJ (i:Z):eH (gN j m i):=by
 unfold gN;cases j with
 |none=>exact KH
 |some a=>
  cases m with
  |none=>exact KH
  |some b=>
   simp only;by_cases c:b=0
   ·rw[aB c];exact⟨ab,ab⟩
   by_cases f:a=0
   ·rw[aA c,aB f];exact⟨ab,ab⟩
   rw[aA c,aA f];unfold wK sn;have g:0<(cR a).natAbs:=(by grind [jW]);have h:0<(cR b).natAbs:=(by grind [jW]);have e:58<=aV ((cR a).natAbs*2^nL (cR a).natAbs (cR b).natAbs/(cR b).natAbs):=GO g h (by grind [nL]);refine SQ ?_;rcases qj ((cR a).natAbs*2^nL (cR a).natAbs (cR b).natAbs/(cR b).natAbs) with d|d
   ·rw[d] at e;exact absurd e ab
   omega
theorem R2 (a b:Z):eH (gM bG a b):=by grind [CP,gM,eH]
theorem QX (a:eH b) (c:Z):ah (vE (b,c,())) (λd=>eH d.1):=by
 have e:=a.1;have f:=a.2;unfold vE;dsimp only;refine ah.bs (wq c (n:=4) ab ab) ?_;dsimp only;rw[gp,gp,gp,cW];refine ah.ite (λ_=>?_) λ_=>?_
 ·grind [bu,R2,ux,ou]
 rw[cW];refine ah.ite (λ_=>?_) λ_=>?_
 ·simp_all [bu,R2,aB,aF,ou,ux,jq]
 rw[cW];refine ah.ite (λ_=>?_) λ_=>?_
 ·refine ah.bs (wQ a) ?_;dsimp only;cases bz (cH b=2047)
  ·exact bu.2 a
  exact bu.2 ⟨ab,ab⟩
 unfold IV;refine ah.bs (y:=(lS (iv (b %19-9)) 0,())) ?_ (bu.2 ?_)
 ·refine aj (y:=b %19) ?_ ?_
  ·simp_all [aB,Hx,jq]
  dsimp only;rw[cF (x:=b %19) aa aa,cF aa aa];exact aj (afc aa aa) rfl
 grind [wS]
structure gO (rows cX:X) (st iG nO:ak7):Prop where
 len:st.length=cX+1
 first:st.getD 0 0=0
 mono:∀j,j<cX->st.getD j 0<=st.getD (j+1) 0
 last:st.getD cX 0=(iG.length:Z)
 val:nO.length=iG.length
 rng:∀j k:X,j<cX->st.getD j 0<=(k:Z)->(k:Z)<st.getD (j+1) 0->0<=iG.getD k 0/\iG.getD k 0<(rows:Z)
 asc:∀j k:X,j<cX->st.getD j 0<(k:Z)->(k:Z)<st.getD (j+1) 0->iG.getD (k-1) 0<iG.getD k 0
theorem gw {l:ak7} {i:X} (a:i<l.length):aq l (i:Z)=Y (l.getD i 0):=by rw[eP a,jL a]
theorem af4 (o:d.length<=1000000):Ez (d,())=Y (open Classical in decide (∀a,a+1<d.length->d.getD a 0<=d.getD (a+1) 0),()):=by
 classical
 unfold Ez;dsimp only;refine bQ.1 (ah.aJ (P:=λj=>match j with|.inl _=>(∀a,a+1<d.length->d.getD a 0<=d.getD (a+1) 0)|.inr k=>k=(br,())/\¬(∀a,a+1<d.length->d.getD a 0<=d.getD (a+1) 0)) ?_ ?_)
 ·refine als (λe=>∃b:X,(e.1=(b:Z)\/(e.1=-1/\b=0))/\b<=d.length/\(b<d.length\/d.length=0)/\(∀a,b<=a->a+1<d.length->d.getD a 0<=d.getD (a+1) 0)) (λe=>e.1.toNat) ⟨d.length-1,?_,aa,aa,λa f h=>by omega⟩ ?_
  ·grind [cF,a7]
  rintro⟨l,_⟩ ⟨b,f,h,m,n⟩;dsimp only at f|-;rw[cW];refine ah.ite (λg=>?_) λg=>?_
  ·obtain rfl:l=(b:Z):=aa;obtain⟨c,rfl⟩:∃c,b=c+1:=⟨b-1,aa⟩;have ax:az (((c+1:X):Z)-1)=(c:Z):=(by grind [cF]);rw[ax];refine ah.bs (gw aa) (ah.bs (gw aa) ?_);refine ah.bs (y:=(bz (d.getD (c+1) 0<d.getD c 0),())) (by simp_all [ao3,bM,vt,tb]) ?_;dsimp only;rw[cW];refine ah.ite (λi=>?_) λi=>?_
   ·grind [bu]
   grind [bu,cq]
  grind [bu]
 grind [alc,bu,alM]
def kZ (e:Z) (d b:ak7) (c:X):Prop:=∀a:X,d.getD c 0<=(a:Z)->(a:Z)<d.getD (c+1) 0->(if(a:Z)=d.getD c 0 then-1 else b.getD (a-1) 0)<b.getD a 0/\b.getD a 0<e
theorem kZ.pos (h:kZ b d f a) (i:0<=d.getD a 0):∀c:X,d.getD a 0<=(c:Z)->(c:Z)<d.getD (a+1) 0->0<=f.getD c 0:=by
 intro c
 induction c with
 |zero=>
  intro e g;have:=(h 0 e g).1;omega
 |succ c k=>
  intro e g;have j:=(h (c+1) e g).1;grind
theorem kZ.rng (h:0<=d.getD a 0):kZ b d f a↔(∀k:X,d.getD a 0<=(k:Z)->(k:Z)<d.getD (a+1) 0->0<=f.getD k 0/\f.getD k 0<b)/\(∀k:X,d.getD a 0<(k:Z)->(k:Z)<d.getD (a+1) 0->f.getD (k-1) 0<f.getD k 0):=by
 constructor
 ·intro g;refine⟨λk c e=>⟨g.pos h k c e,(g k c e).2⟩,λk c e=>?_⟩;have:=(g k aa e).1;omega
 rintro⟨c,e⟩ k i j;refine⟨?_,(c k i j).2⟩;split
 ·grind
 grind
theorem afX {l:ak7} {lo hi t:X} (a:hi<=l.length) (b:lo+t<hi):((l.take hi).drop lo).length=hi-lo/\((l.take hi).drop lo)[t]?=Y (l.getD (lo+t) 0):=by grind
theorem afY {l:ak7} {lo:X} (b:a<=l.length):((l.take a).drop lo).length=a-lo:=by grind
theorem gO.iff:gO c a d f g↔d.length=a+1/\d.getD 0 0=0/\(∀b,b<a->d.getD b 0<=d.getD (b+1) 0)/\d.getD a 0=(f.length:Z)/\g.length=f.length/\∀b,b<a->kZ (c:Z) d f b:=by
 have o:(∀b,b<a->d.getD b 0<=d.getD (b+1) 0)->d.getD 0 0=0->∀b,b<=a->0<=d.getD b 0:=λr q b=>by
  induction b with
  |zero=>omega
  |succ b s=>grind
 constructor
 ·rintro⟨l,h,i,m,n,k,p⟩;exact⟨l,h,i,m,n,λb j=>(kZ.rng (o i h b aa)).2 ⟨λe=>k b e j,λe=>p b e j⟩⟩
 rintro⟨l,h,i,m,n,k⟩;exact⟨l,h,i,m,n,λb e j=>((kZ.rng (o i h b aa)).1 (k b j)).1 e,λb e j=>((kZ.rng (o i h b aa)).1 (k b j)).2 e⟩
section
open Go.Proofs
def CG:bp (String×DataW bw):=[("math/bits.deBruijn32tab",Lib.tabData .u8 qw)]
def agt (b:Os) (a:akY):laidMetH cr CG ((World.doorLaid cr 400 b).forCall (λ_ _=>0) ⟨#[],a,[]⟩).memory:=
 laidMetH_of_parts3 (fuel:=8) (laidMet_of_run' 8 (by kernel_rfl) (by kernel_rfl)) (by kernel_rfl) (by kernel_rfl)
def ags {b:bH} (c:laidMetH cr CG b):mj E (λr=>r<b.heap.size) b:=by
 rw[MakeChecks.laidMetH_plain _ _ _ (by kernel_rfl)] at c;have f:cr.globalNamed "math/bits.deBruijn32tab"=Y 0:=(by kernel_rfl);have j:=Lib.tabIs_of_head (g:=0) (t:=301) (e:=5) (n:=32) f (by kernel_rfl) (by kernel_rfl) (by kernel_rfl) (by kernel_rfl) (by kernel_rfl) c;intro q h;have h:q∈[(⟨0,301,.u8,qw⟩:u6)]:=h;obtain rfl:=fH.1 h;have s:0<b.heap.size:=by
  have d:=j.cell f 0 ab;unfold aml at d;split at d
  ·rename_i x w y v;exact(CT.1 v).1
  cases d
 refine⟨bq,_,_,bq,bg _,(λc=>by cases c),.inr ⟨0,0,bq,s,λa p i=>?_⟩⟩;obtain⟨l,i⟩:=ih.1 i;refine⟨[.int .u8 p],bq,λo z m=>?_,bq,bq⟩;have k:=j.cell f a l;have u:(qw.getD a 0:Z)=p:=(by rw[jL l];exact i);rw[u] at k;cases o with
 |zero=>
  obtain rfl:=gy m;have:(⟨0,0+a*alA (.int .u8)+0,bv⟩:Addr)=⟨0,a,bv⟩:=(by show(⟨0,0+a*1+0,bv⟩:Addr)=_;congr 1;omega);rw[this];exact k
 |succ o=>cases m
end
section
theorem WV (a0:c<=200) (an:a<=200) (H:d.length<=10000) (Q:f.length<=1000000) (a4:g.length<=1000000):Ep (((c:Z),(a:Z),f,d,g,()),())=Y (open Classical in decide (gO c a f d g),()):=by
 classical
 unfold Ep;refine bQ.1 ?_;dsimp only;have O:aO (a:Z)=((a+1:X):Z):=a9 aa;have am:∀(j:¬gO c a f d g),(br,())=(bz (gO c a f d g),()):=λj=>(by rw[alM j]);refine ah.aJ (P:=λm=>match m with
  |.inl _=>f.length=a+1/\f.getD 0 0=0/\(∀b,b<a->f.getD b 0<=f.getD (b+1) 0)/\f.getD a 0=(d.length:Z)/\g.length=d.length
  |.inr o=>o=(br,())/\¬gO c a f d g) ?_ ?_
 ·rw[O,fJ];by_cases A:f.length=a+1
  ·rw[aI (ae:ar f=((a+1:X):Z))];refine ah.bs (y:=f.getD 0 0) (gw (i:=0) aa) ?_;rw[fJ];by_cases q:f.getD 0 0=0
   ·rw[aI q];refine ah.bs (af4 Q) ?_;dsimp only;by_cases r:∀p,p+1<f.length->f.getD p 0<=f.getD (p+1) 0
    ·rw[alc r];refine ah.bs (y:=f.getD a 0) (gw aa) ?_;rw[fJ];by_cases s:f.getD a 0=(d.length:Z)
     ·rw[aI (show f.getD a 0=ar d from s),fJ];by_cases B:d.length=g.length
      ·grind [bu,aI,a7]
      rw[aD (ae:¬ar d=ar g)];exact bu.2 ⟨bq,λj=>B j.val.symm⟩
     rw[aD (show¬f.getD a 0=ar d from s)];exact bu.2 ⟨bq,λj=>s j.last⟩
    rw[alM r];exact bu.2 ⟨bq,λj=>r λp H=>j.mono p aa⟩
   rw[aD q];exact bu.2 ⟨bq,λj=>q j.first⟩
  rw[aD (ae:¬ar f=((a+1:X):Z))];exact bu.2 ⟨bq,λj=>A j.len⟩
 rintro(m|m) w
 rotate_left
 ·grind [bu]
 obtain⟨A,q,r,s,B⟩:f.length=a+1/\f.getD 0 0=0/\(∀b,b<a->f.getD b 0<=f.getD (b+1) 0)/\f.getD a 0=(d.length:Z)/\g.length=d.length:=w;have F:∀b,b<=a->0<=f.getD b 0:=λb=>by
  induction b with
  |zero=>omega
  |succ b R=>grind
 have w:∀u b,b+u=a->f.getD b 0<=(d.length:Z):=λu=>by
  induction u with
  |zero|succ u R=>grind
 dsimp only;refine ah.aJ (P:=λm=>match m with
  |.inl _=>(∀b,b<a->kZ (c:Z) f d b)
  |.inr o=>o=(br,())/\¬(∀b,b<a->kZ (c:Z) f d b)) ?_ ?_
 ·refine ah.steps a (λp x=>x=((p:Z),())/\∀b,b<p->kZ (c:Z) f d b) ⟨bq,λb L=>by omega⟩ ?_ ?_
  ·rintro b _ L ⟨rfl,C⟩;dsimp only;rw[aS (aI (aa:(b:Z)<(a:Z))),a9 aa];obtain⟨e,N⟩:=cC (F b aa);obtain⟨n,K⟩:=cC (F (b+1) aa);have E:n<=d.length:=(by have:=w (a-(b+1)) (b+1) aa;omega);have av:e<=n:=ae;refine ah.bs (y:=(e:Z)) (by rw[gw aa,N]) (ah.bs (y:=(n:Z)) (by rw[gw aa,K]) (ah.bs (y:=(e,n)) (by grind [wv,qN]) ?_));dsimp only;have ap:=afY (l:=d) (lo:=e) E;refine ah.aJ (P:=λm=>match m with
    |.inl _=>kZ (c:Z) f d b
    |.inr o=>o=.inr (.inr (br,()))/\¬kZ (c:Z) f d b) ?_ ?_
   ·refine ah.steps (n-e) (λh x=>x=((if h=0 then-1 else d.getD (e+h-1) 0),(h:Z),())/\∀k:X,e<=k->k<e+h->(if(k:Z)=f.getD b 0 then-1 else d.getD (k-1) 0)<d.getD k 0/\d.getD k 0<(c:Z)) ⟨bq,λk C D=>by omega⟩ ?_ ?_
    ·rintro h _ a3 ⟨rfl,D⟩;have J:=(afX (l:=d) (lo:=e) (hi:=n) (t:=h) E aa).2;have M:(if h=0 then-1 else d.getD (e+h-1) 0)=(if((e+h:X):Z)=f.getD b 0 then-1 else d.getD (e+h-1) 0):=by
      omega
     dsimp only;rw[aS (aI (ae:(h:Z)<ar ((d.take n).drop e))),M];refine ah.aJ (P:=λm=>match m with
      |.inl o=>o=(d.getD (e+h) 0,())/\((if((e+h:X):Z)=f.getD b 0 then-1 else d.getD (e+h-1) 0)<d.getD (e+h) 0/\d.getD (e+h) 0<(c:Z))
      |.inr o=>o=.inr (.inr (.inr (.inr (br,()))))/\¬((if((e+h:X):Z)=f.getD b 0 then-1 else d.getD (e+h-1) 0)<d.getD (e+h) 0/\d.getD (e+h) 0<(c:Z))) ?_ ?_
     ·refine ah.bs (y:=d.getD (e+h) 0) (fR J) ?_;generalize(if((e+h:X):Z)=f.getD b 0 then-1 else d.getD (e+h-1) 0)=V;generalize d.getD (e+h) 0=z;by_cases I:z<=V
      ·grind [bu,aI]
      rw[aD I];by_cases ad:z>=(c:Z)
      ·grind [bu,aI]
      grind [aD,bu]
     rintro(m|m) G
     ·obtain⟨rfl,v⟩:=G;refine bu.2 ⟨?_,?_⟩
      ·rw[a9 aa,aA aa];rfl
      intro k S T;rcases cY k (e+h) with U|U
      ·grind
      obtain rfl:k=e+h:=aa;exact v
     obtain⟨rfl,v⟩:=G;refine bu.2 ⟨bq,λj=>v ?_⟩;exact j (e+h) aa aa
    rintro _ ⟨rfl,D⟩;dsimp only;rw[aP (aD (ae:¬(((n-e:X):Z)<ar ((d.take n).drop e))))];refine bu.2 ?_;intro k S T;simp_all
   grind [bu,cq]
  rintro _ ⟨rfl,C⟩;simp_all [bu,aP,aD]
 grind [bu,alc,gO.iff]
def ox (b:ak7):Prop:=∀a,a<b.length->cH (b.getD a 0)≠2047
open Classical in
def fQ (d b:X) (e c a:ak7):Z:=if gO d b e c a then if ox a then 0 else 4 else 1
theorem Nb.getD {a:ak7} (e:∀d∈a,eH d) (c:X):eH (a.getD c 0):=by
 rcases cY c a.length with b|b
 ·grind
 rw[pN b];exact⟨ab,ab⟩
theorem aaC (j:∀m∈d,eH m) (o:d.length<=1000000):Et (d,(),())=Y (open Classical in decide (¬ox d),()):=by
 classical
 unfold Et;refine bQ.1 ?_;refine ah.aJ (P:=λc=>∃e,c=(e,())/\(0<=e↔¬ox d)) ?_ ?_
 ·unfold IM;dsimp only;refine ah.aJ (P:=λk=>match k with|.inl _=>ox d|.inr c=>0<=c.1/\¬ox d) ?_ ?_
  ·refine ah.steps d.length (λa l=>l=((a:Z),())/\∀b,b<a->cH (d.getD b 0)≠2047) ⟨bq,λb n=>by omega⟩ ?_ ?_
   ·rintro a _ h ⟨rfl,g⟩;dsimp only;rw[aS (aI (ae:(a:Z)<ar d))];refine ah.bs (gw h) ?_;unfold IK;refine ah.bs (y:=(bz (cH (d.getD a 0)=2047),())) (aj (FW (Nb.getD j a)) ae) ?_;dsimp only;rw[cW];refine ah.ite (λf=>?_) λf=>?_
    ·exact bu.2 ⟨aa,λi=>i a h f⟩
    grind [bu,a9,cq]
   rintro _ ⟨rfl,g⟩;dsimp only;rw[aP (aD (ae:¬((d.length:Z)<ar d)))];exact bu.2 g
  grind [bu]
 rintro _ ⟨e,rfl,p⟩;refine bu.2 ?_;grind
theorem Z4 (j:c<=200) (h:a<=200) (i:f.length<=10000) (k:g.length<=1000000) (e:d.length<=1000000) (l:∀m∈d,eH m):tn (((c:Z),(a:Z),g,f,d,()),())=Y (fQ c a g f d,()):=by
 classical
 unfold tn fQ;dsimp only;refine aj (y:=(br,())) ?_ ?_
 ·unfold Es;grind
 dsimp only;rw[bR];refine aj (WV j h i k e) ?_;dsimp only;by_cases b:gO c a g f d
 ·rw[alc b,aB b];refine aj (aaC l e) ?_;grind
 grind
end
theorem afd (h:∀l∈d,eH l) (n:d.length<=1000000):E0 (d,())=Y (open Classical in decide (ox d),()):=by
 classical
 unfold E0;refine bQ.1 ?_;dsimp only;refine ah.aJ (P:=λi=>match i with|.inl _=>ox d|.inr j=>j=(br,())/\¬ox d) ?_ ?_
 ·refine ah.steps d.length (λa k=>k=((a:Z),())/\∀b,b<a->cH (d.getD b 0)≠2047) ⟨bq,λb m=>by omega⟩ ?_ ?_
  ·rintro a _ f ⟨rfl,e⟩;dsimp only;rw[aS (aI (ae:(a:Z)<ar d))];refine ah.bs (gw f) (ah.bs (wQ (Nb.getD h a)) ?_);dsimp only;rw[Bool.not_not,cW];refine ah.ite (λc=>?_) λc=>?_
   ·exact bu.2 ⟨bq,λg=>g a f c⟩
   grind [bu,a9,cq]
  rintro _ ⟨rfl,e⟩;dsimp only;rw[aP (aD (ae:¬((d.length:Z)<ar d)))];exact bu.2 e
 grind [alc,bu,alM]
theorem aeP (bl:c<=200) (an:a<=200) (ap:f.length<=10000) (bx:d.length<=1000000) (R:g.length<=1000000) (S:∀ad∈g,eH ad):rR (((c:Z),(a:Z),d,f,g,()),())=Y (fQ c a d f g,()):=by
 classical
 unfold rR;refine bQ.1 ?_;dsimp only;have Q:aO (a:Z)=((a+1:X):Z):=a9 aa;have am:∀(l:¬gO c a d f g),((1:Z),())=(fQ c a d f g,()):=λl=>(by unfold fQ;grind);refine ah.bs (y:=.inl ()) ?_ ?_
 ·grind
 dsimp only;refine ah.aJ (P:=λk=>match k with
  |.inl _=>d.length=a+1/\d.getD 0 0=0/\d.getD a 0=(f.length:Z)/\g.length=f.length
  |.inr m=>m=((1:Z),())/\¬gO c a d f g) ?_ ?_
 ·rw[Q,fJ,fJ];by_cases B:g.length=f.length
  ·rw[aI (ae:ar g=ar f)];by_cases A:d.length=a+1
   ·rw[aI (ae:ar d=((a+1:X):Z))];refine ah.bs (y:=d.getD 0 0) (gw (i:=0) aa) ?_;rw[fJ];by_cases q:d.getD 0 0=0
    ·rw[aI q];refine ah.bs (y:=d.getD a 0) (gw aa) ?_;rw[fJ];by_cases u:d.getD a 0=(f.length:Z)
     ·grind [bu,aI]
     rw[aD (show¬d.getD a 0=ar f from u)];exact bu.2 ⟨bq,λl=>u l.last⟩
    rw[aD q];exact bu.2 ⟨bq,λl=>q l.first⟩
   rw[aD (ae:¬ar d=((a+1:X):Z))];exact bu.2 ⟨bq,λl=>A l.len⟩
  rw[aD (ae:¬ar g=ar f)];exact bu.2 ⟨bq,λl=>B l.val⟩
 rintro(k|k) r
 rotate_left
 ·grind [bu]
 obtain⟨A,q,u,B⟩:d.length=a+1/\d.getD 0 0=0/\d.getD a 0=(f.length:Z)/\g.length=f.length:=r;dsimp only;refine ah.aJ (P:=λk=>match k with
  |.inl _=>(∀b,b<a->d.getD b 0<=d.getD (b+1) 0)
  |.inr m=>m=((1:Z),())/\¬gO c a d f g) ?_ ?_
 ·refine ah.steps a (λp t=>t=((p:Z),())/\∀b,b<p->d.getD b 0<=d.getD (b+1) 0) ⟨bq,λb z=>by omega⟩ ?_ ?_
  ·rintro b _ z ⟨rfl,x⟩;dsimp only;rw[aS (aI (aa:(b:Z)<(a:Z))),a9 aa];refine ah.bs (gw aa) (ah.bs (gw aa) ?_);rw[cW];refine ah.ite (λw=>?_) λw=>?_
   ·exact bu.2 ⟨bq,λl=>by have:=l.mono b z;omega⟩
   grind [bu,cq]
  rintro _ ⟨rfl,x⟩;simp_all [bu,aP,aD]
 rintro(k|k) r
 rotate_left
 ·grind [bu]
 have M:∀b,b<a->d.getD b 0<=d.getD (b+1) 0:=r;have J:∀b,b<=a->0<=d.getD b 0:=λb=>by
  induction b with
  |zero=>omega
  |succ b K=>grind
 have r:∀v b,b+v=a->d.getD b 0<=(f.length:Z):=λv=>by
  induction v with
  |zero|succ v K=>grind
 dsimp only;refine ah.aJ (P:=λk=>match k with
  |.inl _=>(∀b,b<a->kZ (c:Z) d f b)
  |.inr m=>m=((1:Z),())/\¬(∀b,b<a->kZ (c:Z) d f b)) ?_ ?_
 ·refine ah.steps a (λp t=>t=((p:Z),())/\∀b,b<p->kZ (c:Z) d f b) ⟨bq,λb z=>by omega⟩ ?_ ?_
  ·rintro b _ z ⟨rfl,x⟩;dsimp only;rw[aS (aI (aa:(b:Z)<(a:Z))),a9 aa];obtain⟨e,a3⟩:=cC (J b aa);obtain⟨o,O⟩:=cC (J (b+1) aa);have av:o<=f.length:=(by have:=r (a-(b+1)) (b+1) aa;omega);have a0:e<=o:=ae;have G:aq d (b:Z)=Y (e:Z):=(by grind [gw]);have H:aq d ((b+1:X):Z)=Y (o:Z):=(by rw[gw aa,O]);refine ah.bs G ?_;refine ah.aJ (P:=λk=>match k with
    |.inl _=>kZ (c:Z) d f b
    |.inr m=>m=.inr (.inr ((1:Z),()))/\¬kZ (c:Z) d f b) ?_ ?_
   ·refine ah.steps (o-e) (λh t=>t=(((e+h:X):Z),())/\∀j:X,e<=j->j<e+h->(if(j:Z)=d.getD b 0 then-1 else f.getD (j-1) 0)<f.getD j 0/\f.getD j 0<(c:Z)) ⟨bq,λj x n=>by omega⟩ ?_ ?_
    ·rintro h _ ce ⟨rfl,n⟩;dsimp only;refine ah.bs H ?_;rw[aS (aI (aa:((e+h:X):Z)<(o:Z)))];have C:aq f ((e+h:X):Z)=Y (f.getD (e+h) 0):=gw aa;have a4:h≠0->0<=f.getD (e+h-1) 0:=λV=>by
      have U:∀j:X,e<=j->j<e+h->0<=f.getD j 0:=by
       intro j
       induction j with
       |zero=>
        grind
       |succ j K=>
        intro D E;have I:=(n (j+1) D E).1;by_cases w:((j+1:X):Z)=d.getD b 0
        ·omega
        grind
      exact U _ aa aa
     refine ah.aJ (P:=λk=>match k with
      |.inl _=>((if((e+h:X):Z)=d.getD b 0 then-1 else f.getD (e+h-1) 0)<f.getD (e+h) 0/\f.getD (e+h) 0<(c:Z))
      |.inr m=>m=.inr (.inr (.inr (.inr ((1:Z),()))))/\¬((if((e+h:X):Z)=d.getD b 0 then-1 else f.getD (e+h-1) 0)<f.getD (e+h) 0/\f.getD (e+h) 0<(c:Z))) ?_ ?_
     ·refine ah.bs C ?_;by_cases F:f.getD (e+h) 0<0
      ·rw[aI F];refine bu.2 ⟨bq,λl=>?_⟩;omega
      rw[aD F];refine ah.bs C ?_;by_cases L:f.getD (e+h) 0>=(c:Z)
      ·grind [bu,aI]
      rw[aD L];refine ah.bs G ?_;by_cases V:h=0
      ·rw[aD (aa:¬((e+h:X):Z)>(e:Z))];refine bu.2 ⟨?_,aa⟩;omega
      rw[aI (aa:((e+h:X):Z)>(e:Z))];have ax:az (((e+h:X):Z)-1)=((e+h-1:X):Z):=(by rw[cF aa aa];omega);refine ah.bs C (ah.bs (y:=f.getD (e+h-1) 0) (by rw[ax];exact gw aa) ?_);rw[cW];refine ah.ite (λw=>?_) λw=>?_
      ·refine bu.2 ⟨bq,λl=>?_⟩;omega
      refine bu.2 ⟨?_,aa⟩;omega
     rintro(k|k) s
     ·refine bu.2 ⟨by rw[a9 aa];rfl,?_⟩;intro j D E;rcases cY j (e+h) with T|T
      ·grind
      obtain rfl:j=e+h:=aa;omega
     obtain⟨rfl,I⟩:=s;exact bu.2 ⟨bq,λl=>I (l (e+h) aa aa)⟩
    rintro _ ⟨rfl,n⟩;dsimp only;refine ah.bs H ?_;rw[aP (aD (aa:¬(((e+(o-e):X):Z)<(o:Z))))];refine bu.2 ?_;intro j D E;simp_all
   grind [bu,cq]
  rintro _ ⟨rfl,x⟩;simp_all [bu,aP,aD]
 rintro(k|k) s
 ·have s:(∀b,b<a->kZ (c:Z) d f b):=s;have N:gO c a d f g:=gO.iff.2 ⟨A,q,M,u,B,s⟩;refine ah.bs (afd S R) ?_;unfold fQ;rw[aB N];by_cases n:ox g
  ·rw[alc n,aB n];grind [bu]
  rw[alM n,aA n];grind [bu]
 grind [bu,gO.iff]
abbrev c5:=Z×Z×Z×bw
variable{t:bp c5}
def jw (b d:ak7) (c:Z) (a:X):X->bp c5
 |0=>[]
 |n+1=>jw b d c a n++[(b.getD (a+n) 0,c,d.getD (a+n) 0,())]
def cZ (a b c:ak7):X->bp c5
 |0=>[]
 |j+1=>cZ a b c j++jw b c (j:Z) (a.getD j 0).toNat ((a.getD (j+1) 0).toNat-(a.getD j 0).toNat)
theorem OX (c f:ak7) (d:Z) (e a:X):(jw c f d e a).length=a:=by
 induction a with
 |zero=>rfl
 |succ a b=>simp[jw,b]
def gO.pos (e:gO c a d f g):∀b,b<=a->0<=d.getD b 0:=λb=>by
 have:=e.first
 induction b with
 |zero=>omega
 |succ b h=>intro i;have:=h aa;have:=e.mono b aa;omega
theorem gO.qO (h:gO c a f d g):∀b,b<=a->f.getD b 0<=(d.length:Z):=by
 have k:∀e b,b+e=a->f.getD b 0<=(d.length:Z):=λe=>by
  have:=h.last
  induction e with
  |zero=>grind
  |succ e j=>intro b i;have:=j (b+1) aa;have:=h.mono b aa;omega
 exactλb i=>k (a-b) b aa
theorem Bo (e:gO c a d f g):∀b,b<=a->(cZ d f g b).length=(d.getD b 0).toNat:=λb=>by
 induction b with
 |zero=>intro _;have:=e.first;show 0=(d.getD 0 0).toNat;omega
 |succ b h=>
  intro k;have i:=h aa;have j:=e.mono b aa;grind [alr,OX,cZ]
theorem Jn (e:gO c a g d f) (p:a<=200) (r:d.length<=10000):yc (((c:Z),(a:Z),g,d,f,()),())=Y (cZ g d f a,()):=by
 unfold yc;refine bQ.1 ?_;dsimp only;refine ah.aJ (P:=λk=>k=(cZ g d f a,())) ?_ (by grind [bu]);refine ah.steps a (λb l=>l=((b:Z),cZ g d f b,())) rfl ?_ ?_
 ·rintro b _ n rfl;have s:=e.len;obtain⟨i,o⟩:=cC (e.pos b aa);obtain⟨h,m⟩:=cC (e.pos (b+1) aa);have t:h<=d.length:=(by have:=e.qO (b+1) aa;omega);have u:i<=h:=(by have:=e.mono b n;omega);have q:=Bo e b aa;have w:=e.val;dsimp only;rw[aS (aI (aa:(b:Z)<(a:Z))),a9 aa];refine ah.bs (y:=(i:Z)) (by rw[gw aa,o]) ?_;refine ah.aJ (P:=λk=>k=(cZ g d f (b+1),())) ?_ (by grind [bu]);refine ah.steps (h-i) (λj l=>l=(((i+j:X):Z),cZ g d f b++jw d f (b:Z) i j,())) (by simp[jw]) ?_ ?_
  ·rintro j _ v rfl;dsimp only;refine ah.bs (y:=(h:Z)) (by rw[gw aa,m]) ?_;rw[aS (aI (aa:((i+j:X):Z)<(h:Z)))];refine ah.bs (gw aa) (ah.bs (gw aa) ?_);rw[c9 (by grind [OX])];refine bu.2 ?_;rw[a9 aa,alG];rfl
  rintro _ rfl;dsimp only;refine ah.bs (y:=(h:Z)) (by rw[gw aa,m]) ?_;simp_all [bu,aP,aD,cZ,jw]
 rintro _ rfl;dsimp only;rw[aP (aD (aa:¬((a:Z)<(a:Z))))];grind [bu]
structure gK (rows cX:X) (st iG nO:ak7):Prop where
 hr:rows<=200
 hc:cX<=200
 hi:iG.length<=10000
 hs:st.length<=1000000
 hv:nO.length<=1000000
 hw:∀v∈nO,eH v
def gK.check (b:gK c a f d g):tn (((c:Z),(a:Z),f,d,g,()),())=Y (fQ c a f d g,()):=Z4 b.hr b.hc b.hi b.hs b.hv b.hw
def gK.wL (b:gK c a f d g):rR (((c:Z),(a:Z),f,d,g,()),())=Y (fQ c a f d g,()):=aeP b.hr b.hc b.hi b.hs b.hv b.hw
theorem jI:fQ c a g f d=0↔gO c a g f d/\ox d:=by unfold fQ;grind
def UO (b:gK c a f d g) (e:fQ c a f d g=0):Em (((c:Z),(a:Z),f,d,g,()),())=Y (cZ f d g a,()):=by unfold Em;refine aj b.check ?_;dsimp only;rw[e,fJ,aI bq];exact aj (Jn (jI.1 e).1 b.hc b.hi) rfl
theorem Sv (b:gK c a f d g) (i:fQ c a f d g=0):A4 (((c:Z),(a:Z),f,d,g,()),())=Y (cZ f d g a,()):=by have e:=(jI.1 i).1;have h:=Jn e b.hc b.hi;unfold yc at h;unfold A4;refine aj b.wL ?_;grind
def hK (a b:c5):Prop:=a.2.1<b.2.1\/(a.2.1=b.2.1/\a.1<b.1)
def wm {i:c5}:i∈jw d f b c a↔∃e,e<a/\i=(d.getD (c+e) 0,b,f.getD (c+e) 0,()):=by
 induction a with
 |zero=>simp[jw]
 |succ a l=>
  simp only[jw,hM,l,fH];constructor
  ·rintro(⟨e,k,g⟩|j)
   ·exact⟨e,aa,g⟩
   exact⟨a,aa,j⟩
  rintro⟨e,k,g⟩;rcases cY e a with h|h
  ·exact .inl ⟨e,h,g⟩
  obtain rfl:e=a:=aa;exact .inr g
def XD (h:∀g e,g<e->e<a->d.getD (c+g) 0<d.getD (c+e) 0):(jw d f b c a).Pairwise hK:=by
 induction a with
 |zero=>exact amZ
 |succ a m=>
  refine aqi.2 ⟨m λg e i p=>h g e i aa,List.pairwise_singleton _ _,?_⟩;intro n j o k;obtain⟨e,l,rfl⟩:=wm.1 j;rw[fH.1 k];exact .inr ⟨bq,h e a l aa⟩
def BP {h:c5}:h∈cZ d f g a↔∃b,b<a/\h∈jw f g (b:Z) (d.getD b 0).toNat ((d.getD (b+1) 0).toNat-(d.getD b 0).toNat):=by
 induction a with
 |zero=>simp[cZ]
 |succ a k=>
  simp only[cZ,hM,k];constructor
  ·rintro(⟨b,j,c⟩|i)
   ·exact⟨b,aa,c⟩
   exact⟨a,aa,i⟩
  rintro⟨b,j,c⟩;rcases cY b a with e|e
  ·exact .inl ⟨b,e,c⟩
  obtain rfl:b=a:=aa;exact .inr c
def rZ (k:gO c a d f g):∀b,b<=a->(cZ d f g b).Pairwise hK:=by
 intro b
 induction b with
 |zero=>intro _;exact amZ
 |succ b q=>
  intro p;have C:=k.pos b aa;have D:=k.pos (b+1) p;refine aqi.2 ⟨q aa,XD ?_,?_⟩
  ·intro h i v w;have s:∀e,h+e<(d.getD (b+1) 0).toNat-(d.getD b 0).toNat->0<e->f.getD ((d.getD b 0).toNat+h) 0<f.getD ((d.getD b 0).toNat+(h+e)) 0:=by
    intro e
    induction e with
    |zero=>intro _ y;omega
    |succ e r=>
     intro x _;have m:=k.asc b ((d.getD b 0).toNat+(h+(e+1))) aa aa aa;rw[(aa:(d.getD b 0).toNat+(h+(e+1))-1=(d.getD b 0).toNat+(h+e))] at m;rcases qj e with j|j
     ·subst j;exact m
     have:=r aa j;omega
   have:=s (i-h) aa aa;rwa[(aa:h+(i-h)=i)] at this
  intro t l u o;obtain⟨n,z,l⟩:=BP.1 l;obtain⟨i,A,rfl⟩:=wm.1 l;obtain⟨E,B,rfl⟩:=wm.1 o;exact .inl (by show(n:Z)<(b:Z);omega)
def adK (a b:Z):DE ([a,b],())=Y (if a≠0 then a else b,()):=by
 unfold DE;refine bQ.1 ?_;dsimp only;refine ah.aJ (P:=λf=>match f with|.inl _=>a=0/\b=0|.inr k=>k=(if a≠0 then a else b,())) ?_ ?_
 ·refine ah.steps 2 (λd l=>l=((d:Z),())/\(1<=d->a=0)/\(2<=d->b=0)) ⟨bq,λh=>by omega,λh=>by omega⟩ ?_ ?_
  ·rintro d _ m ⟨rfl,g,i⟩;rcases(aa:d=0\/d=1) with rfl|rfl
   ·show ah (bif a !=0 then _ else _) _;rw[fJ];by_cases c:a=0
    ·rw[aI c];exact bu.2 ⟨bq,λ_=>c,λh=>by omega⟩
    rw[aD c];refine bu.2 ?_;rw[aB c]
   show ah (bif b !=0 then _ else _) _;have j:=g ab;rw[fJ];by_cases c:b=0
   ·rw[aI c];exact bu.2 ⟨bq,λ_=>j,λ_=>c⟩
   rw[aD c];refine bu.2 ?_;rw[aA (by simpa using j)]
  rintro _ ⟨rfl,g,i⟩;exact bu.2 ⟨g ab,i ab⟩
 rintro(f|f) e
 ·obtain⟨rfl,rfl⟩:a=0/\b=0:=e;exact bu.2 bq
 have e:f=_:=e;rw[e];exact bu.2 bq
def OP {a b:c5} (c:hK a b):ye (b,a,())=Y (1,()):=by
 unfold ye;refine aj (DA _ _) (aj (DA _ _) (aj (adK _ _) ?_));dsimp only;congr 2;unfold fo;rcases c with c|⟨e,d⟩
 ·rw[aA (aa:¬b.2.1<a.2.1),aB c];rfl
 rw[aA (aa:¬b.2.1<a.2.1),aA (aa:¬a.2.1<b.2.1),aA ac,aA (aa:¬b.1<a.1),aB d]
def J3 (i:t.length<=1000) (e:t.Pairwise hK) {lo hi:X} (f:lo<=hi) (g:hi<=t.length):AQ (t,(lo:Z),(hi:Z),(),())=Y (t,()):=by
 unfold AQ;refine bQ.1 ?_;dsimp only;refine ah.aJ (P:=λc=>c=(t,())) ?_ (by rintro _ rfl;exact bu.2 bq);refine ah.steps (hi-lo-1) (λa b=>b=(((lo+1+a:X):Z),t,())) (by rw[a9 aa]) ?_ ?_
 ·rintro a _ h rfl;dsimp only;rw[aS (aI (aa:((lo+1+a:X):Z)<(hi:Z)))];refine ah.aJ (P:=λc=>c=(t,())) ?_ (by rintro _ rfl;refine bu.2 ?_;dsimp only;rw[a9 aa];rfl);refine ah.steps 0 (λ_ b=>b=(((lo+1+a:X):Z),t,())) rfl (λa b hi=>by omega) ?_;rintro _ rfl;dsimp only;refine ah.bs (y:=.inr (.inr (t,()))) ?_ (bu.2 bq);rw[aI (aa:((lo+1+a:X):Z)>(lo:Z))];have ax:az (((lo+1+a:X):Z)-1)=((lo+a:X):Z):=(by rw[cF aa aa];omega);rw[alC,bI,jM aa,ax,jM aa];have d:hK t[lo+a] t[lo+1+a]:=ala.1 e _ _ aa aa aa;exact aj (OP d) rfl
 rintro _ rfl;dsimp only;rw[aP (aD (aa:¬((lo+1+(hi-lo-1):X):Z)<(hi:Z)))];exact bu.2 bq
def agp (u:t.length=21) (m:t.Pairwise hK):EG (t,0,20,21,(),())=Y (t,()):=by
 unfold EG;refine bQ.1 ?_;dsimp only;rw[aP ab,aS ab];refine ah.aJ (P:=λh=>h=(20,t,())) ?_ ?_
 ·refine ah.steps 4 (λd g=>g=((([0,11,16,19,20]:ak6).getD d 0:Z),20,t,())) rfl ?_ ?_
  ·rintro d _ v rfl;have f:∀c a:X,c<20->a<20->eT bG (aR (az ((c:Z)+20))) 1=Y (a:Z)->az (a:Z)=(a:Z)->aO (a:Z)=((a+1:X):Z)->
    ah (
     bif bz ((c:Z)<20) then(eT bG (aR (az ((c:Z)+20))) 1).bind λi=>
     rd t 20 λo=>rd t (az i) λp=>(ye (o,p,())).bind λ(n,_)=>
      (bif !(bz (n<0)) then Y (.inl (aO (az i),20,t,())) else bv) else Y (.inr ((c:Z),t,())))
     (λe=>e=Sum.inl (((a+1:X):Z),(20:Z),t,())):=by
    intro c a q r j k l;rw[aS (aI aa),j,bM,k,show(20:Z)=((20:X):Z) from rfl,jM aa,jM aa];refine ah.bs (OP (ala.1 m _ _ aa aa aa)) ?_;dsimp only;rw[aS ab,l];exact bu.2 bq
   rcases(by omega:d=0\/d=1\/d=2\/d=3) with rfl|rfl|rfl|rfl
   ·exact(f 0 10 ab ab ab ab ab).mono λe b=>by rw[b];rfl
   ·exact(f 11 15 ab ab ab ab ab).mono λe b=>by rw[b];rfl
   ·exact(f 16 18 ab ab ab ab ab).mono λe b=>by rw[b];rfl
   exact(f 19 19 ab ab ab ab ab).mono λe b=>by rw[b];rfl
  rintro _ rfl;exact bu.2 bq
 rintro _ rfl;dsimp only;refine ah.aJ (P:=λh=>h=(t,())) ?_ (by rintro _ rfl;exact bu.2 bq);refine ah.steps 0 (λ_ g=>g=(20,t,())) rfl (λw g s=>by omega) ?_;rintro _ rfl;exact bu.2 bq
def af0 (l:t.length<=21) (d:t.Pairwise hK):Er (t,())=Y (t,()):=by
 unfold Er;refine aj (y:=(t,())) ?_ ?_
 ·unfold IL;have f:((cI (([]:bp c5).length+t.length)).bind λ_=>Y (([]++t:bp c5),()))=Y (t,()):=by
   rw[c9 (by simp;omega)];rfl
  show sh t.length (Y ([],())) ((cI (([]:bp c5).length+t.length)).bind λ_=>Y (([]++t:bp c5),()))=_;unfold sh;rw[f];split
  ·rename_i h;obtain rfl:=rk h;rw[aB bq]
  rfl
 refine aj (y:=(t,())) ?_ bq;unfold IS;refine aj (y:=(t,())) ?_ bq;unfold IU;refine bQ.1 ?_;dsimp only;by_cases j:t.length<20
 ·refine ah.aJ (P:=λb=>b=(0,t,())) ?_ ?_
  ·refine ah.steps 0 (λ_ a=>a=(0,20,t,())) rfl (λg a e=>by omega) ?_;rintro _ rfl;dsimp only;rw[aP (aD (show¬((20:Z)<=ar t) by simp only[a7];omega))];exact bu.2 bq
  rintro _ rfl;refine ah.bs (J3 (lo:=0) aa d (Nat.zero_le _) (cc _)) ?_;refine ah.aJ (P:=λb=>b=(t,())) ?_ (by rintro _ rfl;exact bu.2 bq);refine ah.steps 0 (λ_ a=>a=(20,t,())) rfl (λg a e=>by omega) ?_;rintro _ rfl;dsimp only;rw[aP (aD (show¬((20:Z)<ar t) by simp only[a7];omega))];exact bu.2 bq
 refine ah.aJ (P:=λb=>b=(20,t,())) ?_ ?_
 ·refine ah.steps 1 (λc a=>a=((20*(c:Z)),20+20*(c:Z),t,())) rfl ?_ ?_
  ·rintro c _ i rfl;obtain rfl:c=0:=aa;dsimp only;rw[aS (aI (show(20:Z)+20*((0:X):Z)<=ar t by simp only[a7];omega))];refine ah.bs (J3 (lo:=0) (hi:=20) aa d (Nat.zero_le _) aa) ?_;exact bu.2 bq
  rintro _ rfl;dsimp only;rw[aP (aD (show¬((20:Z)+20*((1:X):Z)<=ar t) by simp only[a7];omega))];exact bu.2 bq
 rintro _ rfl;refine ah.bs (J3 (lo:=20) aa d aa (bg _)) ?_;refine ah.aJ (P:=λb=>b=(t,())) ?_ (by rintro _ rfl;exact bu.2 bq);by_cases k:t.length=20
 ·refine ah.steps 0 (λ_ a=>a=(20,t,())) rfl (λg a e=>by omega) ?_;rintro _ rfl;dsimp only;rw[aP (aD (show¬((20:Z)<ar t) by simp only[a7];omega))];exact bu.2 bq
 refine ah.steps 1 (λc a=>a=(20+20*(c:Z),t,())) rfl ?_ ?_
 ·rintro c _ i rfl;obtain rfl:c=0:=aa;dsimp only;rw[aS (aI (show(20:Z)+20*((0:X):Z)<ar t by simp only[a7];omega))];refine ah.aJ (P:=λb=>b=(0,t,())) ?_ ?_
  ·refine ah.steps 0 (λ_ a=>a=(0,40,t,())) rfl (λg a e=>by omega) ?_;rintro _ rfl;dsimp only;rw[aP (aD (show¬((40:Z)<=ar t) by simp only[a7];omega))];exact bu.2 bq
  rintro _ rfl;refine ah.bs (y:=(t,())) ?_ (bu.2 bq);dsimp only;have f:ar t=21:=(by rw[a7];omega);rw[f,aS (aI (ab:az (0+(20+20*((0:X):Z)))<21))];exact aj (agp aa d) rfl
 rintro _ rfl;dsimp only;rw[aP (aD (show¬((20:Z)+20*((1:X):Z)<ar t) by simp only[a7];omega))];exact bu.2 bq
def jR (E:bp c5) (a:Z):X:=(E.filter λb=>bz (b.2.1=a)).length
def hg (E:bp c5) (a:Z):X:=(E.filter λb=>bz (b.2.1<a)).length
def sf (d b:X) (E:bp c5):dh:=((d:Z),(b:Z),aC (b+1) (λc=>(hg E (c:Z):Z)),E.map (λa=>a.1),E.map (λa=>a.2.2.1),())
theorem It (E:bp c5) (a:Z):hg E (a+1)=hg E a+jR E a:=by
 unfold hg jR
 induction E with
 |nil=>rfl
 |cons b E d=>
  simp only[qd];rcases Int.lt_trichotomy b.2.1 a with c|c|c
  ·rw[aB (by simpa using(by omega:b.2.1<a+1)),aB (by simpa using c),aA (by simpa using(by omega:¬b.2.1=a))];simp only[ju];omega
  ·rw[aB (by simpa using(by omega:b.2.1<a+1)),aA (by simpa using(by omega:¬b.2.1<a)),aB (by simpa using c)];simp only[ju];omega
  rw[aA (by simpa using(by omega:¬b.2.1<a+1)),aA (by simpa using(by omega:¬b.2.1<a)),aA (by simpa using(by omega:¬b.2.1=a))];omega
def l1 (c b:X) (E:bp c5):Prop:=∀a∈E,0<=a.1/\a.1<(c:Z)/\0<=a.2.1/\a.2.1<(b:Z)
def Ol (E:bp c5) (c:c5) (a:Z):jR (E++[c]) a=jR E a+if c.2.1=a then 1 else 0:=by
 unfold jR;rw[qb,hq];congr 1;by_cases b:c.2.1=a
 ·rw[aB b,HC (by simpa using b)];rfl
 rw[aA b,HB (by simpa using b)];rfl
def Wt {E:bp c5} (C:c<=200) (B:a<=200) (n:E.length<=21) (y:E.Pairwise hK) (t:l1 c a E):Eo ((c:Z),(a:Z),E,())=Y (sf c a E,()):=by
 unfold Eo;refine bQ.1 ?_;dsimp only;rw[a9 aa];refine ah.bs (hP aa) (ah.bs (af0 n y) ?_);dsimp only;refine ah.aJ (P:=λr=>r=(((0:Z),((0:Z),([],([],([],()))))),((c:Z),(a:Z),aC (a+1) (λb=>if b=0 then(0:Z) else(jR E ((b:Z)-1):Z)),E.map (λe=>e.1),E.map (λe=>e.2.2.1),()),())) ?_ ?_
 ·refine ah.steps E.length (λd s=>s=((d:Z),((0:Z),((0:Z),([],([],([],()))))),((c:Z),(a:Z),aC (a+1) (λb=>if b=0 then(0:Z) else(jR (E.take d) ((b:Z)-1):Z)),(E.take d).map (λe=>e.1),(E.take d).map (λe=>e.2.2.1),()),E,())) ?_ ?_ ?_
  ·have j:(aC (a+1) λ_=>(0:Z))=aC (a+1) λb=>if b=0 then(0:Z) else(jR (E.take 0) ((b:Z)-1):Z):=c4 λb l=>by split<;>rfl
   rw[iF,j];rfl
  ·rintro d _ k rfl;have q:=t E[d] (b1 k);obtain⟨i,w⟩:=cC q.2.2.1;dsimp only;rw[aS (aI (show(d:Z)<ar E by simp only[a7];omega)),jM k];have ax:aO E[d].2.1=((i+1:X):Z):=(by rw[w,a9 aa]);have p:E.take (d+1)=E.take d++[E[d]]:=(by rw[ct,bV k];rfl);rw[c9 (by simp;omega),bM,c9 (by simp;omega),bM,ax];refine ah.bs (eV (by rw[cU];omega)) (ah.bs (gV aa) (ah.bs (eV (by rw[cU];omega)) ?_));rw[gV aa];refine bu.2 ?_;have o:(aC (a+1) (λb=>if b=0 then(0:Z) else(jR (E.take d) ((b:Z)-1):Z))).set (i+1) (aO (if i+1=0 then(0:Z) else(jR (E.take d) (((i+1:X):Z)-1):Z)))=aC (a+1) (λb=>if b=0 then(0:Z) else(jR (E.take (d+1)) ((b:Z)-1):Z)):=by
    rw[ha];refine c4 λb l=>?_;have m:∀g,jR (E.take d) g<=21:=λg=>dk (lv _ _) (by rw[gu];omega);by_cases f:b=i+1
    ·subst f;rw[gA,aA aa,aA aa,a9 (by have:=m (((i+1:X):Z)-1);omega),p,Ol,aB aa]
    rw[gT _ _ f];by_cases h:b=0
    ·rw[aB h,aB h]
    rw[aA h,aA h,p,Ol,aA aa,nu]
   dsimp only[amP];rw[a9 aa,o,p,amQ,amQ];rfl
  rintro _ rfl;dsimp only;rw[aP (aD (show¬((E.length:Z)<ar E) by simp only[a7];omega)),cj (cc _)];exact bu.2 bq
 rintro _ rfl;dsimp only;refine ah.aJ (P:=λr=>r=(((0:Z),((0:Z),([],([],([],()))))),sf c a E,())) ?_ (by rintro _ rfl;exact bu.2 bq);have x:∀g,hg E g<=21:=λg=>cu (alB _ _) n;have m:∀g,jR E g<=21:=λg=>cu (alB _ _) n;have v:hg E 0=0:=by
  unfold hg;rw[an8.2]
  ·rfl
  intro e q;have:=t e q;simpa using this.2.2.1
 refine ah.steps a (λd s=>s=((d:Z),((0:Z),((0:Z),([],([],([],()))))),((c:Z),(a:Z),aC (a+1) (λb=>if b<=d then(hg E (b:Z):Z) else(jR E ((b:Z)-1):Z)),E.map (λe=>e.1),E.map (λe=>e.2.2.1),()),())) ?_ ?_ ?_
 ·have j:(aC (a+1) λb=>if b=0 then(0:Z) else(jR E ((b:Z)-1):Z))=aC (a+1) (λb=>if b<=0 then(hg E (b:Z):Z) else(jR E ((b:Z)-1):Z)):=c4 λb l=>by
   by_cases f:b=0
   ·subst f;rw[aB bq,aB (bg _)];show(0:Z)=((hg E 0:X):Z);rw[v];rfl
   rw[aA f,aA aa]
  rw[j];rfl
 ·rintro d _ k rfl;dsimp only;rw[aS (aI (aa:(d:Z)<(a:Z))),a9 aa,jM (by rw[cU];omega),jM (by rw[cU];omega),kz,kz];refine ah.bs (eV (by rw[cU];omega)) ?_;rw[gV aa];refine bu.2 ?_;have o:(aC (a+1) (λb=>if b<=d then(hg E (b:Z):Z) else(jR E ((b:Z)-1):Z))).set (d+1) (az ((if d+1<=d then(hg E ((d+1:X):Z):Z) else(jR E (((d+1:X):Z)-1):Z))+(if d<=d then(hg E (d:Z):Z) else(jR E ((d:Z)-1):Z))))=aC (a+1) (λb=>if b<=d+1 then(hg E (b:Z):Z) else(jR E ((b:Z)-1):Z)):=by
   rw[ha];refine c4 λb l=>?_;by_cases f:b=d+1
   ·subst f;have u:=It E (d:Z);have z:=m (d:Z);have A:=x (d:Z);rw[gA,aA aa,aB (bg _),aB (bg _),(aa:(((d+1:X):Z)-1)=(d:Z)),cF aa aa,(aa:((d+1:X):Z)=(d:Z)+1),u];omega
   rw[gT _ _ f];by_cases h:b<=d
   ·rw[aB h,aB aa]
   rw[aA h,aA aa]
  dsimp only[amP];rw[o]
 rintro _ rfl;dsimp only;rw[aP (aD (aa:¬((a:Z)<(a:Z))))];have j:aC (a+1) (λb=>if b<=a then(hg E (b:Z):Z) else(jR E ((b:Z)-1):Z))=aC (a+1) (λb=>(hg E (b:Z):Z)):=c4 λb l=>(by rw[b9 aa]);rw[j];exact bu.2 bq
def hu (b c:Z) (a:c5):bD:=bz (a.2.1<b)||(bz (a.2.1=b)&&bz (a.1<c))
theorem NG {a c:c5} (d:hK a c) (h:hu e b c=bt):hu e b a=bt:=by
 unfold hu at*;simp only[jO,cL,alD] at*;rcases d with d|⟨f,g⟩
 ·omega
 omega
theorem O9 {j i:Z}:∀{E:bp c5},E.Pairwise hK->E.filter (hu j i)=E.take (E.filter (hu j i)).length
 |[],_=>rfl
 |x::E,b=>by
  obtain⟨d,c⟩:=ns.1 b;by_cases a:hu j i x=bt
  ·rw[HC a,ju,List.take_succ_cons];exact b4 _ (O9 c)
  grind [an8,NG,List.filter_cons_of_neg]
theorem Ib {E:bp c5} (d:l1 c a E):E.filter (hu 0 0)=[]:=by refine an8.2 λf e b=>?_;have:=d f e;unfold hu at b;grind
theorem Wc {E:bp c5} (d:l1 a c E) (b:Z):E.filter (hu b (a:Z))=E.filter (hu (b+1) 0):=by refine qc λf e=>?_;have:=d f e;unfold hu;grind
theorem Dt {E:bp c5} (d:l1 c a E) (b:Z):(E.filter (hu b 0)).length=hg E b:=by unfold hg;congr 1;refine qc λf e=>?_;have:=d f e;unfold hu;grind
theorem Ic {j i:Z} {E:bp c5} (c:E.Pairwise hK) (h:a<E.length):hu j i E[a]=bt↔a<(E.filter (hu j i)).length:=by
 constructor
 ·intro b;have g:∀d∈E.take (a+1),hu j i d=bt:=by
   grind [NG,ala,cq,amR]
  grind [alj,aqO,ano,amA]
 intro b;have e:=O9 (j:=j) (i:=i) c;have f:E[a]∈E.filter (hu j i):=(by grind [amR]);grind
theorem Wd {j i:Z} {E:bp c5} (o:E.Pairwise hK):(∃d:(E.filter (hu j i)).length<E.length,E[(E.filter (hu j i)).length].1=i/\E[(E.filter (hu j i)).length].2.1=j/\(E.filter (hu j (i+1))).length=(E.filter (hu j i)).length+1)\/((∀b,(d:b<E.length)->¬(E[b].1=i/\E[b].2.1=j))/\(E.filter (hu j (i+1))).length=(E.filter (hu j i)).length):=by
 have p:∀e:c5,hu j (i+1) e=bt↔hu j i e=bt\/(e.1=i/\e.2.1=j):=λe=>(by unfold hu;grind);have w:∀e:c5,e.1=i/\e.2.1=j->¬hu j i e=bt:=λe k d=>(by simp_all [jO,cL,alD,hu]);generalize C:(E.filter (hu j i)).length=g;generalize D:(E.filter (hu j (i+1))).length=l;have q:∀a,(f:a<E.length)->(hu j i E[a]=bt↔a<g):=λa f=>(by grind [Ic]);have m:∀a,(f:a<E.length)->(hu j (i+1) E[a]=bt↔a<l):=λa f=>(by grind [Ic]);have F:g<=E.length:=ae;have G:l<=E.length:=ae;by_cases n:∃b,∃d:b<E.length,E[b].1=i/\E[b].2.1=j
 ·obtain⟨b,h,k⟩:=n;have x:¬b<g:=λd=>w _ k ((q b h).2 d);have y:b<l:=(m b h).1 ((p _).2 (.inr k));have r:∀a,(f:a<E.length)->g<=a->a<l->a=b:=λa f A t=>by
   have u:=(p _).1 ((m a f).2 t);have B:E[a].1=i/\E[a].2.1=j:=u.resolve_left λd=>ae;rcases sO a b with c|c|c
   ·have:=it.1 o a b f h c;rcases this with d|⟨d,s⟩<;>omega
   ·exact c
   have:=it.1 o b a h f c;rcases this with d|⟨d,s⟩<;>omega
  have v:g=b:=r g aa (bg _) aa;subst v;refine .inl ⟨h,k.1,k.2,?_⟩;rcases cY (g+1) l with c|c
  ·grind
  omega
 refine .inr ⟨λb h k=>n ⟨b,h,k⟩,?_⟩;have z:∀a,a<E.length->(a<l↔a<g):=λa f=>ae;rcases sO l g with c|c|c
 ·grind
 ·exact c
 grind
def o9 (b:X) (a:c5):X:=a.2.1.toNat*b+a.1.toNat
theorem aef {E:bp c5} (d:l1 a c E) {b:c5} (e:b∈E):o9 a b<a*c:=by have f:=d b e;unfold o9;have g:(b.2.1.toNat+1)*a<=c*a:=iX _ aa;grind
theorem aee {rows:X} {a b:Z×Z} (f:0<=a.1/\a.1<(rows:Z)/\0<=a.2) (g:0<=b.1/\b.1<(rows:Z)/\0<=b.2) (c:a.2.toNat*rows+a.1.toNat=b.2.toNat*rows+b.1.toNat):a.1=b.1/\a.2=b.2:=by have d:(a.2.toNat*rows+a.1.toNat)/rows=a.2.toNat:=(by rw[qk,ao4 aa,an7 aa,nu]);have e:(b.2.toNat*rows+b.1.toNat)/rows=b.2.toNat:=(by rw[qk,ao4 aa,an7 aa,nu]);grind
def oR (b:X) (E:bp c5):X->X->Z
 |0,_=>0
 |i+1,a=>if a=o9 b (E.getD i (0,0,0,())) then((i+1:X):Z) else oR b E i a
theorem N1 (c:X) (E:bp c5) (b:X):∀i,(oR c E i b=0/\∀a,a<i->o9 c (E.getD a (0,0,0,()))≠b)\/∃a,a<i/\o9 c (E.getD a (0,0,0,()))=b/\oR c E i b=((a+1:X):Z)
 |0=>.inl ⟨bq,λa e=>absurd e aa⟩
 |i+1=>by
  unfold oR;by_cases d:b=o9 c (E.getD i (0,0,0,()))
  ·grind
  rw[aA d];rcases N1 c E b i with⟨f,g⟩|⟨a,f,g,h⟩
  ·grind
  grind
theorem WF (b:X) (E:bp c5) (a:X):eK (oR b E a) (o9 b (E.getD a (0,0,0,()))) ((a+1:X):Z)=oR b E (a+1):=by grind [oR,eK]
theorem Si (e:c<=200) (d:a<=200) (g:k<=200):az (az ((a:Z)*(c:Z))+(k:Z))=((a*c+k:X):Z):=by have f:a*c<=200*200:=mV d e;have b:(a:Z)*(c:Z)=((a*c:X):Z):=aa;rw[b,CN aa,<-Int.natCast_add,CN aa]
theorem JQ {E:bp c5} (b:a<E.length):E.getD a (0,0,0,())=E[a]:=by grind
def ko (E:bp c5) (b a:Z):X:=(E.filter (hu b a)).length
def Se (E:bp c5) (b a:Z):ko E b a<=E.length:=lv _ _
def pU (e d:X) (E:bp c5) (a:X) (c:X):dh:=((e:Z),(d:Z),aC (a+1) (λa=>(hg E (a:Z):Z)),(E.take c).map (λb=>b.1),(E.take c).map (λb=>b.2.2.1),())
theorem adV {E:bp c5} (x:c<=200) (D:k<=200) (T:E.length<=10000) (J:E.Pairwise hK) (h:l1 c k E):E1 ((c:Z),(k:Z),E,())=Y (sf c k E,()):=by
 unfold E1;refine bQ.1 ?_;dsimp only;have am:c*k<=200*200:=Nat.mul_le_mul x D;have A:az ((c:Z)*(k:Z))=((c*k:X):Z):=(by rw[<-anB,CN aa]);rw[A];refine ah.bs (hP aa) ?_;have O:hg E 0=0:=(by rw[<-Dt h,Ib h];rfl);refine ah.aJ (P:=λm=>m=(((0:Z),((0:Z),([],([],([],()))))),pU c k E 0 0,aC (c*k) (oR c E E.length),())) ?_ ?_
 ·refine ah.steps E.length (λe n=>n=((e:Z),((0:Z),((0:Z),([],([],([],()))))),pU c k E 0 0,aC (c*k) (oR c E e),())) ?_ ?_ ?_
  ·have:pU c k E 0 0=((c:Z),((k:Z),([0],(([]:bj),(([]:bj),()))))):=by
    grind [r0,XY,hg,pU]
   rw[iF,this];rfl
  ·rintro e _ l rfl;have g:=h E[e] (b1 l);obtain⟨M,R⟩:=cC g.1;obtain⟨N,S⟩:=cC g.2.2.1;dsimp only;rw[aS (aI (ae:(e:Z)<ar E))];refine ah.bs (eP l) (ah.bs (eP l) ?_);have I:az (az (E[e].2.1*(c:Z))+E[e].1)=((o9 c E[e]:X):Z):=by
    grind [Si,alO,o9]
   have V:=aef h (cK l);grind [bu,lX,cU,ha,a9,JQ,WF]
  rintro _ rfl;dsimp only;rw[aP (aD (ae:¬((E.length:Z)<ar E)))];grind [bu]
 rintro _ rfl;dsimp only;refine ah.aJ (P:=λm=>m=(((0:Z),((0:Z),([],([],([],()))))),sf c k E,())) ?_ (by grind [bu]);refine ah.steps k (λd n=>n=((d:Z),((0:Z),((0:Z),([],([],([],()))))),pU c k E d (ko E (d:Z) 0),aC (c*k) (oR c E E.length),())) ?_ ?_ ?_
 ·have:ko E ((0:X):Z) 0=0:=by
   unfold ko;grind [Ib]
  grind
 ·rintro d _ F rfl;dsimp only;rw[aS (aI (aa:(d:Z)<(k:Z)))];refine ah.aJ (P:=λm=>m=(((0:Z),((0:Z),([],([],([],()))))),pU c k E d (ko E (d:Z) (c:Z)),aC (c*k) (oR c E E.length),())) ?_ ?_
  ·refine ah.steps c (λe n=>n=((e:Z),((0:Z),((0:Z),([],([],([],()))))),pU c k E d (ko E (d:Z) (e:Z)),aC (c*k) (oR c E E.length),())) rfl ?_ ?_
   ·rintro e _ l rfl;dsimp only;rw[aS (aI (aa:(e:Z)<(c:Z))),Si x aa aa];have I:d*c+e<c*k:=by
     have p:(d+1)*c<=k*c:=iX _ F;grind
    rw[jM (by grind [cU]),kz];have w:=Se E (d:Z) (e:Z);have q:=Wd (j:=(d:Z)) (i:=(e:Z)) J;change(∃o:ko E (d:Z) (e:Z)<E.length,E[ko E (d:Z) (e:Z)].1=(e:Z)/\E[ko E (d:Z) (e:Z)].2.1=(d:Z)/\ko E (d:Z) ((e:Z)+1)=ko E (d:Z) (e:Z)+1)\/((∀u,(o:u<E.length)->¬(E[u].1=(e:Z)/\E[u].2.1=(d:Z)))/\ko E (d:Z) ((e:Z)+1)=ko E (d:Z) (e:Z)) at q;rw[show(e:Z)+1=((e+1:X):Z) from by omega] at q;generalize ko E (d:Z) (e:Z)=z at*;rw[a9 aa];have G:∀f,(o:f<E.length)->o9 c E[f]=d*c+e->E[f].1=(e:Z)/\E[f].2.1=(d:Z):=(by intro f o ad;have g:=h E[f] (cK o);exact aee (rows:=c) (a:=(E[f].1,E[f].2.1)) (b:=((e:Z),(d:Z))) ⟨g.1,g.2.1,g.2.2.1⟩ ⟨aa,aa,aa⟩ (by grind [o9]));rcases N1 c E (d*c+e) E.length with⟨L,av⟩|⟨f,t,y,K⟩
    ·rw[L];rcases q with⟨p,s,B,C⟩|⟨p,s⟩
     ·grind [alO,JQ,o9,absurd]
     rw[aP (aD aa)];grind [bu,ah.bs]
    rw[K];rw[JQ t] at y;obtain⟨aE,ap⟩:=G f t y;rcases q with⟨p,s,B,C⟩|⟨p,s⟩
    ·have H:f=z:=by
      rcases sO f z with r|r|r
      ·grind [ala,hK]
      ·exact r
      grind [ala,hK]
     subst H;rw[aS (aI aa),(aa:((f+1:X):Z)-1=(f:Z)),CN aa];unfold pU;dsimp only;rw[c9 ae,bM];have an:E.take (f+1)=E.take f++[E[f]]:=ag;rw[eP t,bM,c9 ae,bM,bM];grind [bu]
    grind
   rintro _ rfl;dsimp only;rw[aP (aD (aa:¬((c:Z)<(c:Z))))];grind [bu]
  rintro _ rfl;have w:=Se E (d:Z) (c:Z);have ax:ko E (d:Z) (c:Z)=ko E ((d+1:X):Z) 0:=(by grind [Wc,ko]);have Q:ko E ((d+1:X):Z) 0=hg E ((d+1:X):Z):=Dt h _;rw[ax] at w|-;unfold pU;dsimp only;have U:ar ((E.take (ko E ((d+1:X):Z) 0)).map λv=>v.1)=(hg E ((d+1:X):Z):Z):=ae;grind [bu,c9,cU,r0,a9]
 rintro _ rfl;dsimp only;rw[aP (aD (aa:¬((k:Z)<(k:Z))))];have ax:ko E (k:Z) 0=E.length:=(by unfold ko;rw[amA.2];intro v g;have:=h v g;simp_all [Bool.or_eq_true,Bool.and_eq_true,alD,hu]);have:pU c k E k (ko E (k:Z) 0)=sf c k E:=(by simp_all [cj,cc,pU,sf]);grind [bu]
theorem xG {E:bp c5} (g:E.Pairwise hK) (e:l1 k c E) (f:a<E.length) (b:Z):E[a].2.1<b↔a<hg E b:=by have d:=Ic (j:=b) (i:=0) g f;rw[Dt e] at d;rw[<-d];have:=e E[a] (cK f);unfold hu;grind
theorem Og {E:bp c5} (b:l1 c a E):hg E 0=0:=by rw[<-Dt b,Ib b];rfl
theorem Of {E:bp c5} (b:l1 c a E):hg E (a:Z)=E.length:=by unfold hg;rw[oD.2];intro e d;have:=b e d;grind
theorem XW {b:X->Z} (d:a<c):(aC c b).getD a 0=b a:=by grind [h0]
theorem FN {E:bp c5} (c:a<E.length):(E.map λb=>b.1).getD a 0=E[a].1:=by grind
theorem Yx {E:bp c5} (c:a<E.length):(E.map λb=>b.2.2.1).getD a 0=E[a].2.2.1:=by grind
def wX (a:X) (E:bp c5):ak7:=aC (a+1) (λb=>(hg E (b:Z):Z))
theorem wY {E:bp c5} (b:a<=c):(wX c E).getD a 0=(hg E (a:Z):Z):=XW aa
theorem Is (E:bp c5) (a:Z):hg E a<=E.length:=lv _ _
theorem age {E:bp c5} (i:E.Pairwise hK) (d:l1 c a E):gO c a (wX a E) (E.map λj=>j.1) (E.map λj=>j.2.2.1) where
 len:=cU _ _
 first:=by rw[wY (dj _)];grind [Og]
 mono:=λe k=>by grind [wY,It]
 last:=by rw[wY (bg _),Of d,di]
 val:=by simp
 rng:=λe f k g h=>by rw[wY aa] at g h;have b:f<E.length:=(by grind [Is]);rw[FN b];have:=d E[f] (cK b);omega
 asc:=λe f k g h=>by rw[wY aa] at g h;have b:f<E.length:=(by grind [Is]);rw[FN b,FN aa];have l:=xG i d b (e:Z);have m:=xG i d b ((e+1:X):Z);have n:=xG i d (aa:f-1<E.length) (e:Z);grind [ala,xG,hK]
theorem L0 {rows cX:X} {E:bp c5} (c:rows<=200) (b:cX<=200) (f:E.length<=10000) (e:∀a∈E,eH a.2.2.1):gK rows cX (wX cX E) (E.map λa=>a.1) (E.map λa=>a.2.2.1) where
 hr:=c
 hc:=b
 hi:=by grind
 hs:=by grind [cU,wX]
 hv:=by grind
 hw:=λg d=>by grind
def Jl (c f:ak7) (d:Z) (b a:X):jw c f d b a=aC a λe=>(c.getD (b+e) 0,d,f.getD (b+e) 0,()):=by
 induction a with
 |zero=>rfl
 |succ a g=>rw[jw,g,r0]
theorem XE {E:bp c5} (i:E.Pairwise hK) (h:l1 c a E):∀b,b<=a->cZ (wX a E) (E.map λf=>f.1) (E.map λf=>f.2.2.1) b=E.take (hg E (b:Z)):=by
 intro b
 induction b with
 |zero=>
  intro _;show[]=E.take (hg E 0);grind [Og]
 |succ b q=>
  intro t;rw[cZ,q aa,wY aa,wY aa,Jl,gg,gg];have n:hg E ((b+1:X):Z)=hg E (b:Z)+jR E (b:Z):=(by grind [It]);have o:=Is E ((b+1:X):Z);have j:∀d,(e:d<E.length)->hg E (b:Z)<=d->d<hg E ((b+1:X):Z)->E[d].2.1=(b:Z):=λd e l m=>(by have r:=xG i h e (b:Z);have s:=xG i h e ((b+1:X):Z);omega);rw[n] at j o|-;generalize hg E (b:Z)=k at*;generalize jR E (b:Z)=g at*;rw[sN,List.take_add];congr 1;have p:((E.drop k).take g).length=g:=ae;refine xi (by rw[cU,p]) λu l m=>?_;grind [kz,FN,Yx,cU]
def Jm {E:bp c5} (e:E.Pairwise hK) (d:l1 c a E):cZ (wX a E) (E.map λb=>b.1) (E.map λb=>b.2.2.1) a=E:=by rw[XE e d a (bg _),Of d,fD (bg _)]
theorem X8 {E:bp c5} (b:∀a∈E,cH a.2.2.1≠2047):ox (E.map λa=>a.2.2.1):=by intro d c;grind
def Ir {E:bp c5} (f:E.Pairwise hK) (e:l1 c a E) (d:∀b∈E,cH b.2.2.1≠2047):fQ c a (wX a E) (E.map λb=>b.1) (E.map λb=>b.2.2.1)=0:=
 jI.2 ⟨age f e,X8 d⟩
theorem rY (e:gO c a d f g):l1 c a (cZ d f g a):=by intro n h;obtain⟨b,i,h⟩:=BP.1 h;obtain⟨j,k,rfl⟩:=wm.1 h;have l:=e.pos b aa;have m:=e.pos (b+1) aa;have:=e.rng b ((d.getD b 0).toNat+j) i aa aa;grind
theorem pK (b:gO c a g f d) {i:Z->Prop} (m:∀k∈d,i k):∀j∈cZ g f d a,i j.2.2.1:=by intro j h;obtain⟨e,l,h⟩:=BP.1 h;obtain⟨s,n,rfl⟩:=wm.1 h;have q:=b.pos e aa;have r:=b.pos (e+1) aa;have o:=b.qO (e+1) aa;have p:=b.val;grind
theorem Bs (b:ox d):∀a∈d,cH a≠2047:=by intro a e;obtain⟨f,c,rfl⟩:=hV.1 e;have:=b f c;grind
def tZ (a:c5):bD:=bz (a.1>=a.2.1)
def fE (E:bp c5):bp c5:=E.filter tZ
def yT {E:bp c5} (a:E.Pairwise hK):(fE E).Pairwise hK:=aqj xj a
def yS {E:bp c5} (b:l1 c a E):l1 c a (fE E):=λe d=>b e (h4.1 d).1
def ZS {E:bp c5}:∀a∈fE E,a.2.1<=a.1:=λa b=>by have:=(h4.1 b).2;unfold tZ at this;simpa using this
def TU {b:n->bD} {E:bp n} (d:a<E.length):(E.take (a+1)).filter b=(E.take a).filter b++(if b E[a]=bt then[E[a]] else[]):=by
 rw[hA,bh d,qb];congr 1;show[E[a]].filter b=_;by_cases c:b E[a]=bt
 ·rw[aB c,HC c];rfl
 rw[aA c,HB c];rfl
def KI:∀(a:ak6) (b:X),a.Pairwise (· < ·)->(∀x∈a,x<b)->a.length<=b
 |[],_,_,_=>dj _
 |x::a,b,i,d=>by
  obtain⟨c,j⟩:=ns.1 i;have p:=d x ac;have:=KI (a.map λf=>f-(x+1)) (b-(x+1)) (by
   rw[oG];refine sH ?_ j;intro h m k o n;have:=c h k;omega) (by
   intro f l;obtain⟨g,e,rfl⟩:=e1.1 l;have:=c g e;have:=d g (by simp[e]);omega)
  rw[di] at this;rw[ju];omega
def KR (a:Z):Z:=if a=0 then 0 else if a=1 then 5 else if a=2 then 9 else if a=3 then 12 else if a=4 then 14 else 15
def ZU (s:a<=6) {E:bp c5} (o:E.Pairwise hK) (c:l1 a a E) (d:∀b∈E,b.2.1<=b.1):E.length<=21:=by
 have m:=KI (E.map λb=>(KR b.2.1+b.1).toNat) 21 (by
  rw[oG];refine sH ?_ o;intro e f g h n;have k:=c e g;have q:=c f h;have l:=d e g;have r:=d f h;unfold hK at n;unfold KR;split<;>split<;>(try split)<;>(try split)<;>(try split)<;>(try split)<;>(try split)<;>(try split)<;>(try split)<;>(try split)<;>omega) (by
  intro t p;obtain⟨j,i,rfl⟩:=e1.1 p;have k:=c j i;have l:=d j i;unfold KR;split
  ·omega
  split
  ·omega
  split
  ·omega
  split
  ·omega
  split<;>omega)
 rwa[di] at m
structure kJ (n:X) (st iG nO:ak7):Prop where
 uc:n<=7
 el:(fE (cZ st iG nO n)).length<=21
def kJ.aaI (c:a<=6) (b:fQ a a f d g=0):kJ a f d g:=
 ⟨aa,dk (ZU c (yT (rZ (jI.1 b).1 a (bg _))) (yS (rY (jI.1 b).1)) ZS) ab⟩
def kJ.BX (c:a<=5) (b:fQ a a f d g=0):kJ a f d g:=kJ.aaI (dk c ab) b
def U8 (j:kJ a f d g) (b:gK a a f d g) (l:fQ a a f d g=0):En (((a:Z),(a:Z),f,d,g,()),())=Y (sf a a (fE (cZ f d g a)),0,()):=by
 have h:=(jI.1 l).1;have m:=rZ h a (cc _);have n:=rY h;have s:=j.el;have t:=j.uc;have r:(cZ f d g a).length<=10000:=(by rw[Bo h a (cc _)];have:=h.qO a (cc _);have:=b.hi;omega);unfold En;refine aj b.check ?_;dsimp only;rw[l,fJ,aI bq];refine aj (Jn h b.hc b.hi) ?_;dsimp only;generalize cZ f d g a=E at*;refine bQ.1 ?_;refine ah.aJ (P:=λo=>o=(((0:Z),((0:Z),([],([],([],()))))),fE E,())) ?_ ?_
 ·refine ah.steps E.length (λc p=>p=((c:Z),((0:Z),((0:Z),([],([],([],()))))),fE (E.take c),E,())) rfl ?_ ?_
  ·rintro c _ k rfl;dsimp only;rw[aS (aI (show(c:Z)<ar E by simp only[a7];omega)),jM k,a9 aa];have q:(fE (E.take c)).length<=10000:=cu (alB _ _) (by rw[alj];omega);unfold fE at*;rw[TU k];by_cases i:tZ E[c]=bt
   ·have e:=i;unfold tZ at e;rw[aS e,aB i,c9 (by simp only[ju,po];omega)];exact bu.2 bq
   have e:=i;unfold tZ at e;rw[aP (by simpa using e),aA i,oA];exact bu.2 bq
  rintro _ rfl;dsimp only;rw[aP (aD (show¬((E.length:Z)<ar E) by simp only[a7];omega)),cj (cc _)];exact bu.2 bq
 rintro _ rfl;dsimp only;exact ah.bs (Wt b.hr b.hc aa (yT m) (yS n)) (bu.2 bq)
def Lv (k:kJ a f d g) (e:gK a a f d g) (j:fQ a a f d g=0):tA (((a:Z),(a:Z),f,d,g,()),())=Y (sf a a (fE (cZ f d g a)),0,()):=by
 have i:=(jI.1 j).1;have m:=rZ i a (cc _);have n:=rY i;have s:=k.el;have t:=k.uc;have r:(cZ f d g a).length<=10000:=(by rw[Bo i a (cc _)];have:=i.qO a (cc _);have:=e.hi;omega);unfold tA;refine aj e.wL ?_;dsimp only;rw[j,fJ,aI bq];refine aj (Sv e j) ?_;dsimp only;generalize cZ f d g a=E at*;refine bQ.1 ?_;refine ah.aJ (P:=λo=>o=(((0:Z),((0:Z),([],([],([],()))))),fE E,())) ?_ ?_
 ·refine ah.steps E.length (λb p=>p=((b:Z),((0:Z),((0:Z),([],([],([],()))))),fE (E.take b),())) rfl ?_ ?_
  ·rintro b _ l rfl;dsimp only;rw[aS (aI (show(b:Z)<ar E by simp only[a7];omega)),eP l,a9 aa];have q:(fE (E.take b)).length<=10000:=cu (alB _ _) (by rw[alj];omega);unfold fE at*;rw[TU l];by_cases h:tZ E[b]=bt
   ·have c:=h;unfold tZ at c;rw[aF,aF,aS c,aB h,aF,c9 (by simp only[ju,po];omega)];exact bu.2 bq
   have c:=h;unfold tZ at c;rw[aF,aF,aP (by simpa using c),aA h,oA];exact bu.2 bq
  rintro _ rfl;dsimp only;rw[aP (aD (show¬((E.length:Z)<ar E) by simp only[a7];omega)),cj (cc _)];exact bu.2 bq
 rintro _ rfl;dsimp only;exact ah.bs (adV e.hr e.hc aa (yT m) (yS n)) (bu.2 bq)
def kD (b:akW) (a:ak7):eB:=(bK a.length).map λ(c:X)=>(bK a.length).map λ(d:X)=>bz (a.getD d 0∈b.getD (a.getD c 0).toNat [])
theorem yG (b:akW) (a:ak7):(kD b a).length=a.length:=by simp[kD]
theorem If (b:a<d.length) (e:c<d.length):hX (kD i d) a c=bz (d.getD c 0∈i.getD (d.getD a 0).toNat []):=by grind [alW,hX,kD]
theorem agr (g:0<=b/\b<i.length) (h:0<=e/\e<i.length):∃a,aq (pe i) b=Y a/\aq a e=Y (bz (e∈i.getD b.toNat [])):=by
 have d:b.toNat<i.length:=aa;have f:e.toNat<i.length:=aa;refine⟨(bK i.length).map λ(c:X)=>bz ((c:Z)∈i[b.toNat]),?_,?_⟩
 ·simp_all [aB,TT,aq]
 unfold aq;grind
theorem U4 (B:fw i) (w:∀d∈i,d.length<4611686018427387904) (G:i.length<=200) (s:∀m∈d,0<=m/\m<(i.length:Z)) (D:d.Nodup) (R:d.length<=400):E4 ((i,()),d,())=Y ((ki (kD i d),()),0,()):=by
 classical
 rw[<-bQ];unfold E4;have C:iO i=0:=(by simp_all [aA,aB,iO]);have ax:bz (∀m∈d,0<=m/\m<(i.length:Z))=bt:=alc s;have A:bz (¬d.Nodup)=br:=alM (λb=>b D);simp only[Cl i w,C,Vi d _ aa,ax,Vr d aa,A,M6 w G (λg K=>(B.asc g K).2),OQ d.length aa,aF,ao3,bR,g7];simp only[bY];refine cB (P:=λu=>u.2.1=kD i d) ?_ ?_
 ·refine ah.for (i0:=0) d.length (λa v=>v.2.1=(bK d.length).map λ(g:X)=>if g<a then(kD i d).getD g [] else bJ d.length br) rfl ?_ (dj _) ?_ ?_
  ·apply ig;grind
  ·rintro a ⟨x,o,_⟩ _ j e;simp only at e;simp only[b0,bY];refine⟨λ_=>?_,λp=>by grind⟩;refine cB (P:=λu=>u.2.1=(bK d.length).map λ(g:X)=>if g<a+1 then(kD i d).getD g [] else bJ d.length br) ?_ (by grind [js,bu]);refine ah.for (i0:=0) d.length (λc v=>v.2.1=o.set a ((bK d.length).map λ(h:X)=>if h<c then hX (kD i d) a h else br)) rfl ?_ (dj _) ?_ ?_
   ·show o=_;apply ig;intro f;rw[xk];by_cases l:a=f
    ·subst l;rw[aB bq,e];simp[j,ao5]
    grind
   ·rintro c ⟨O,n,_⟩ _ r k;simp only at k;have L:=s _ (cK j);have M:=s _ (cK r);obtain⟨N,H,I⟩:=agr L M;have S:n.length=d.length:=ae;have q:a<n.length:=aa;have J:n[a]=(bK d.length).map λ(h:X)=>if h<c then hX (kD i d) a h else br:=by
     grind
    have E:aq d (a:Z)=Y d[a]:=fR (bh j);have F:aq d (c:Z)=Y d[c]:=fR (bh r);simp only[b0,bY,ah.FT,E,F,H,I,bu,ah.Dr,ah.Ky,gg];refine⟨λ_=>⟨⟨aa,q⟩,q,⟨aa,ae⟩,q,ae,js aa,?_⟩,λp=>by grind⟩;rw[J,k,List.set_set];congr 1;apply ig;intro f;rw[xk,jQ,jQ];rcases cY f d.length with b|b
    ·rw[zQ b];simp only[jv,di,mr];by_cases l:c=f
     ·subst l;have y:d.getD c 0=d[c]:=ae;have z:d.getD a 0=d[a]:=ae;rw[aB bq,aB b,aB aa,If j r,y,z]
     grind
    grind
   rintro⟨O,n,_⟩ k;simp only at k;simp only[b0,bu];refine⟨λp=>by grind,λ_=>?_⟩;rw[k,e];apply ig;intro f;rw[xk,jQ,jQ];rcases cY f d.length with b|b
   ·rw[zQ b];simp only[jv,di,mr];by_cases l:a=f
    ·subst l;rw[aB bq,aB b,aB aa];congr 1;have:(kD i d).getD a []=(bK d.length).map λ(h:X)=>hX (kD i d) a h:=by
      have Q:(kD i d).getD a []=(bK d.length).map λ(c:X)=>bz (d.getD c 0∈i.getD (d.getD a 0).toNat []):=(by simp[kD,alW,j]);grind [If,alq]
     simp_all
    grind
   grind
  rintro⟨x,o,_⟩ e;simp only at e;simp only[b0,bu];refine⟨λp=>by grind,λ_=>?_⟩;rw[e];apply ig;intro f;rw[jQ];rcases cY f d.length with b|b
  ·simp_all [aB,bh,yG,jv,zQ,alW]
  grind [amJ,yG]
 rintro⟨x,o,_⟩ e;simp only at e;subst e;rw[MO]
 ·grind [bu]
 ·intro N t;unfold kD at t;simp only[e1] at t;obtain⟨a,_,rfl⟩:=t;simp[kD]
 grind [yG]
section
inductive jg (A:X->X->Prop) (P:X->Prop):X->X->Prop
 |one {i j:X}:A i j->jg A P i j
 |step {i m j:X}:A i m->P m->jg A P m j->jg A P i j
section
variable {A:X->X->Prop} {P:X->Prop}
theorem jg.trans (b:jg A P c a) (e:P a) (d:jg A P a k):jg A P c k:=by
 induction b with
 |one b=>exact .step b e d
 |step b f _ g=>exact .step b f (g e d)
def jg.symm (f:∀d e,A d e->A e d) (b:jg A P a c):jg A P c a:=by
 induction b with
 |one b=>exact .one (f _ _ b)
 |step b g _ h=>exact h.trans g (.one (f _ _ b))
theorem jg.mono (f:∀d,P d->q d) (b:jg A P a c):jg A q a c:=by
 induction b with
 |one b=>exact .one b
 |step b e _ g=>exact .step b (f _ e) g
def jg.insert_iff:jg A (λf=>P f\/f=k) a c↔jg A P a c\/(jg A P a k/\jg A P k c):=by
 constructor
 ·intro b
  induction b with
  |one b=>exact .inl (.one b)
  |@step a m c b g _ d=>
   rcases g with g|rfl
   ·rcases d with d|⟨l,h⟩
    ·exact .inl (.step b g d)
    exact .inr ⟨.step b g l,h⟩
   rcases d with d|⟨_,h⟩
   ·exact .inr ⟨.one b,d⟩
   exact .inr ⟨.one b,h⟩
 rintro(b|⟨i,j⟩)
 ·exact b.mono λf e=>.inl e
 exact(i.mono λf e=>.inl e).trans (.inr bq) (j.mono λf e=>.inl e)
def jg.none:jg A (λ_=>b7) a c↔A a c:=by
 constructor
 ·intro b;cases b with
  |one b=>exact b
  |step _ b _=>exact b.elim
 exact .one
theorem Ur:rE A k a c↔jg A (λf=>f<k) a c:=by
 constructor
 ·intro b
  induction b with
  |one b=>exact .one b
  |step b d _ e=>exact .step b d e
 intro b
 induction b with
 |one b=>exact .one b
 |step b d _ e=>exact .step b d e
end
end
section
theorem af2:∀{b a:ak7},b.Pairwise (· < ·)->a.Pairwise (· < ·)->(∀c,c∈b↔c∈a)->b=a:=by
 intro b
 induction b with
 |nil=>
  intro a _ _ d;cases a with
  |nil=>rfl
  |cons e a=>grind [ao6]
 |cons c b h=>
  intro a f g d;cases a with
  |nil=>grind
  |cons e a=>
   grind [ao6,am0]
structure zH (nD:akW) (S:X->Prop) (T:eB) (gone:ak5):Prop where
 Hd:T.length=nD.length
 rows:∀v,(h:v<T.length)->T[v].length=nD.length
 v8:gone.length=nD.length
 Px:∀v,(h:v<gone.length)->(gone[v]=bt↔S v)
 Me:∀u w,(ahQ:u<T.length)->(hw:w<T[u].length)->¬S u->¬S w->(T[u][w]=bt↔u≠w/\jg (ks nD) S u w)
def ma (b:eB) (c:ak5) (e d:X):ak7:=((bK d).filter λa=>hX b e a&&!c.getD a br).map λ(a:X)=>(a:Z)
theorem KA (a:zH i q o s) {v w:X} (k:v<i.length) (f:¬q v):(w:Z)∈ma o s v i.length↔w<i.length/\¬q w/\v≠w/\jg (ks i) q v w:=by
 unfold ma;simp only[e1,h4,hN,cL,uG];have l:∀w,w<i.length->((hX o v w=bt/\s.getD w br=br)↔¬q w/\v≠w/\jg (ks i) q v w):=by
  intro w g;have d:v<o.length:=(by rw[a.Hd];exact k);have e:w<o[v].length:=(by rw[a.rows v d];exact g);have h:w<s.length:=(by rw[a.v8];exact g);have j:s.getD w br=s[w]:=ae;rw[xJ d e,j,Bool.eq_false_iff,ne_eq,a.Px w h];constructor
  ·rintro⟨b,c⟩;exact⟨c,(a.Me v w d e f c).1 b⟩
  rintro⟨b,c⟩;exact⟨(a.Me v w d e f b).2 c,b⟩
 grind
theorem KJ (b:eB) (c:ak5) (d a:X):(ma b c d a).length<=a:=by grind [cu,alB,b6,ma]
theorem KK (e:b∈ma o s c a):∃d:X,b=(d:Z)/\d<a:=by grind [ma]
theorem MX (l:o.length=c) (w:∀a,(e:a<o.length)->o[a].length=c) (n:s.length=c) (u:c<=4294967296) (x:a<c):Ba (Y (o,s,()),(a:Z),())=Y (ma o s a c,()):=by
 rw[<-bQ];unfold Ba;have t:h1=4294967296:=rfl;simp only[bY,bu];refine cB (P:=λd=>d.1=ma o s a c) ?_ ae;refine ah.for (i0:=0) c (λi k=>k.1=ma o s a i) rfl rfl (dj _) ?_ ?_
 ·rintro b ⟨j,_⟩ _ y f;simp only at f;have v:=KJ o s a b;simp only[aF];rw[b0];refine⟨λ_=>?_,λm=>by grind⟩;rw[bY,bY];have g:a<o.length:=aa;have h:b<o[a].length:=ae;have p:aq o (a:Z)=Y o[a]:=fR (bh g);have q:aq o[a] (b:Z)=Y o[a][b]:=fR (bh h);have r:aq s (b:Z)=Y (s.getD b br):=fR ae;refine cB (P:=λd=>d=((hX o a b&&!s.getD b br),j,())) ?_ ?_
  ·simp_all [bY,b0,bu,xJ]
  rintro _ rfl;simp only[b0,bY,bu,amM];refine⟨λe=>⟨ae,js aa,?_⟩,λe=>⟨js aa,?_⟩⟩
  ·simp_all [aB,qd,an9,je,qb,iK,ma]
  simp_all [je,qb,iK,qd,an9,aA,ma]
 simp_all [aF,b0,bu]
theorem Wg (e:a<o.length) (f:c<o[a].length) (b d:X):hX (o.set a (o[a].set c bt)) b d=(hX o b d||(b==a&&d==c)):=by grind [hX]
theorem QP (a:eB) (b:ak5) (d c:X):(ma a b d c).Pairwise (· < ·):=L1 _ _
theorem UN (K:o.length=a) (O:∀c,(g:c<o.length)->o[c].length=a) (ap:s.length=a) (av:a<=4294967296) (a0:c<a):ah (A9 ((o,s,()),(c:Z),())) (λq=>q.1.2.1=s.set c bt/\q.1.1.length=a/\(∀c,(g:c<q.1.1.length)->q.1.1[c].length=a)/\∀d b,d<a->b<a->(hX q.1.1 d b=bt↔hX o d b=bt\/((d:Z)∈ma o s c a/\(b:Z)∈ma o s c a/\d≠b))):=by
 unfold A9;simp only[MX K O ap av a0,aF];have am:=KJ o s c a;have E:∀I∈ma o s c a,∃b:X,I=(b:Z)/\b<a:=λI Q=>KK Q;have an:=QP o s c a;generalize ma o s c a=f at am E an;have a3:∀l m:X,(g:l<f.length)->(ad:m<f.length)->f[l]=f[m]->l=m:=λl m g ad J=>by
  rcases sO l m with C|C|C
  ·grind [ala]
  ·exact C
  grind [ala]
 simp only[bY];refine cB (P:=λe:dQ×bw=>e.1.2.1=s/\e.1.1.length=a/\(∀c,(g:c<e.1.1.length)->e.1.1[c].length=a)/\∀d b,d<a->b<a->(hX e.1.1 d b=bt↔hX o d b=bt\/((d:Z)∈f/\(b:Z)∈f/\d≠b))) ?_ ?_
 ·refine ah.for (i0:=0) f.length (λh e=>e.1.2.1=s/\e.1.1.length=a/\(∀c,(g:c<e.1.1.length)->e.1.1[c].length=a)/\∀d b,d<a->b<a->(hX e.1.1 d b=bt↔hX o d b=bt\/((d:Z)∈f.take h/\(b:Z)∈f/\d≠b))) rfl ⟨bq,K,O,λd b _ _=>by simp⟩ (dj _) ?_ ?_
  ·rintro h ⟨⟨R,S,_⟩,_⟩ _ H ⟨r,t,u,D⟩;simp only at r t u D;simp only[b0,bY];refine⟨λ_=>?_,λM=>by grind⟩;refine cB (P:=λe:dQ×bw=>e.1.2.1=s/\e.1.1.length=a/\(∀c,(g:c<e.1.1.length)->e.1.1[c].length=a)/\∀d b,d<a->b<a->(hX e.1.1 d b=bt↔hX o d b=bt\/((d:Z)∈f.take (h+1)/\(b:Z)∈f/\d≠b))) ?_ (by grind [js,bu]);obtain⟨j,L,bl⟩:=E _ (cK H);refine ah.for (i0:=0) f.length (λk e=>e.1.2.1=s/\e.1.1.length=a/\(∀c,(g:c<e.1.1.length)->e.1.1[c].length=a)/\∀d b,d<a->b<a->(hX e.1.1 d b=bt↔hX o d b=bt\/((d:Z)∈f.take h/\(b:Z)∈f/\d≠b)\/(d=j/\(b:Z)∈f.take k/\d≠b))) rfl ⟨r,t,u,λd b x y=>by grind⟩ (dj _) ?_ ?_
   ·rintro k ⟨⟨A,T,_⟩,_⟩ _ w ⟨i,n,p,z⟩;simp only at i n p z;obtain⟨B,F,bs⟩:=E _ (cK w);have U:aq f (h:Z)=Y (j:Z):=fR (by rw[bh H,L]);have V:aq f (k:Z)=Y (B:Z):=fR (by rw[bh w,F]);have v:j<A.length:=aa;have G:B<A[j].length:=ae;simp only[b0,bY,U,V,bu,ah.FT,ah.Dr,ah.Ky,gg];refine⟨λ_=>⟨λN=>⟨⟨aa,v⟩,v,⟨aa,G⟩,v,G,js aa,i,ae,λI Q=>?_,λd b x y=>?_⟩,λbx=>⟨js aa,i,n,p,λd b x y=>?_⟩⟩,λM=>by grind⟩
    ·rw[aqk];grind
    ·have N:h≠k:=ae;have a4:j≠B:=λJ=>N (a3 h k H w (by rw[L,F,J]));rw[Wg v G,jO,z d b x y,<-uz w,F,hM,fH];grind
    grind [uz,ak9]
   rintro⟨⟨A,T,_⟩,_⟩ ⟨i,n,p,z⟩;simp only at i n p z;simp only[b0,bu];refine⟨λM=>by grind,λ_=>⟨i,n,p,λd b x y=>?_⟩⟩;grind [cm,uz,ak9]
  rintro⟨⟨R,S,_⟩,_⟩ ⟨r,t,u,D⟩;simp only at r t u D;simp only[b0,bu];grind
 grind [bY,ah.FT,ah.Dr,bu,ah.Ky,alO]
theorem UM (F:fw i) (G:i.length<=4294967296) (b:zH i q o s) (k:a<i.length) (r:¬q a):ah (A9 ((o,s,()),(a:Z),())) (λB=>zH i (λg=>q g\/g=a) B.1.1 B.1.2.1):=by
 refine(UN b.Hd b.rows b.v8 G k).mono ?_;rintro⟨⟨M,h,_⟩,_⟩ ⟨l,m,n,p⟩;simp only at l m n p|-;subst l;have v:=ks.symm F;refine⟨m,n,by rw[anf];exact b.v8,λg N=>?_,λc e H I t u=>?_⟩
 ·rw[aqk];by_cases J:a=g
  ·grind
  rw[aA J,b.Px];grind
 have w:c<i.length:=aa;have y:e<i.length:=ae;have:=p c e w y;rw[xJ H I] at this;have j:c<o.length:=(by rw[b.Hd];omega);have x:e<o[c].length:=(by rw[b.rows c j];omega);have z:¬q c:=λd=>t (.inl d);have A:¬q e:=λd=>u (.inl d);have K:a≠c:=λd=>t (.inr d.symm);have L:a≠e:=λd=>u (.inr d.symm);rw[this,xJ j x,b.Me c e j x z A,KA b k r,KA b k r,jg.insert_iff];constructor
 ·rintro(⟨h,f⟩|⟨⟨_,_,_,f⟩,⟨_,_,_,D⟩,E⟩)
  ·grind
  exact⟨E,.inr ⟨f.symm v,D⟩⟩
 rintro⟨h,f|⟨f,C⟩⟩
 ·grind
 exact .inr ⟨⟨w,z,K,f.symm v⟩,⟨y,A,L,C⟩,h⟩
theorem UD (e:fw i) (k:∀n∈i,n.length<4611686018427387904) (l:i.length<=200):ah (E5 ((i,()),())) (λg=>zH i (λ_=>b7) g.1.1 g.1.2.1):=by
 unfold E5;have o:h1=4294967296:=rfl;simp only[M6 k l (λc m=>(e.asc c m).2),aF,bY,ah.Kx,bu,gg];refine⟨⟨aa,aa,aa⟩,Mb i,λc j=>?_,ac,λc j=>by simp,λb d p q _ _=>?_⟩
 ·simp[pe]
 rw[jg.none];have f:b<i.length:=(by grind [Mb]);have r:d<i.length:=(by grind [pe]);have h:(pe i)[b][d]=bz ((d:Z)∈i[b]):=(by grind [pe,alW]);rw[h,alD];constructor
 ·exactλa=>⟨ks.ne e ⟨f,a⟩,f,a⟩
 exactλa=>a.2.2
open Classical in
theorem ae3 (j:fw i) (k:∀s∈i,s.length<4611686018427387904) (p:i.length<=200):Bb ((i,()),())=Y ((bK i.length).map (hh i),0,()):=by
 rw[<-bQ];unfold Bb;have A:h1=4294967296:=rfl;have n:iO i=0:=(by simp_all [aA,aB,iO]);simp only[Cl i k,n,aF,ao3,bR];simp only[bY];refine(UD j k p).mono ?_;rintro⟨⟨f,g,_⟩,_⟩ c;simp only at c;simp only[bY];refine cB (P:=λt=>t.1=(bK i.length).map (hh i)) ?_ (by grind [bu]);refine ah.for (i0:=0) i.length (λa h=>h.2.1=(bK a).map (hh i)/\zH i (λl=>l<a) h.1.1 h.1.2.1) rfl ⟨bq,?_⟩ (dj _) ?_ ?_
 ·grind
 ·rintro a ⟨⟨f,g,_⟩,C,_⟩ _ e ⟨q,c⟩;simp only at q c;have B:=KJ f g a i.length;have y:[(a:Z)]++ma f g a i.length=hh i a:=by
   have o:=λd=>KA c (v:=a) (w:=d) e (xq a);refine af2 ?_ (Om i a) ?_
   ·rw[zV,ns];grind [KK,QP]
   intro l;constructor
   ·intro b;rw[zV,gn] at b;rcases b with rfl|b
    ·exact wl.2 ⟨e,.inl bq⟩
    obtain⟨d,rfl,_⟩:=KK b;have:=(o d).1 b;exact wl.2 ⟨this.1,.inr ⟨aa,Ur.2 this.2.2.2⟩⟩
   intro b;rw[zV,gn];have r:=b;unfold hh vo at b;simp only[e1] at b;obtain⟨d,_,rfl⟩:=b;obtain⟨u,m|⟨m,x⟩⟩:=wl.1 r
   ·omega
   grind [Ur]
  rw[b0];refine⟨λ_=>?_,λz=>by grind⟩;simp only[MX c.Hd c.rows c.v8 (aa:i.length<=4294967296) e,aF,bY,amM];refine⟨ae,ae,?_⟩;refine(UM j aa c e (xq a)).mono ?_;grind [alu,js,bu]
 simp_all [b0,bu]
end
def V4 (c:d.Pairwise (· < ·)) (e:∀g∈d,0<=g):∀a,(b:a<d.length)->(a:Z)<=d[a]:=by
 intro a
 induction a with
 |zero=>intro b;exact e _ (cK b)
 |succ a f=>
  intro b;have h:=f aa;have i:=B6.1 c a b;omega
def rc.length {a:ak7} {c:X} (b:rc a c):a.length<=c:=by
 rcases qj a.length with d|d
 ·omega
 have g:=V4 b.1 (λf e=>(b.2 f e).1) (a.length-1) aa;have h:=(b.2 _ (cK (aa:a.length-1<a.length))).2;omega
def fw.rows (b:fw i):∀a∈i,a.length<=i.length:=by intro a c;obtain⟨e,d,rfl⟩:=hV.1 c;exact(b.asc e d).length
def fw.hc (b:fw i) (d:i.length<=200):∀a∈i,a.length<4611686018427387904:=λa c=>by have:=b.rows a c;omega
def qx:iO i=0↔i.length<=200/\fw i:=by
 unfold iO;by_cases a:200<i.length
 ·rw[aB a];constructor
  ·intro a;omega
  intro a;omega
 rw[aA a];by_cases b:fw i
 ·rw[aB b];exact⟨λ_=>⟨aa,b⟩,λ_=>rfl⟩
 rw[aA b];exact⟨λa=>by omega,λa=>absurd a.2 b⟩
def R8 (a:akW) (b:X):Z:=((hh a b)[1]?).getD (-1)
section
def Oe (P:X->Prop):X->X
 |0=>0
 |k+1=>Oe P k+(open Classical in if P k then 1 else 0)
section
variable {P Q:X->Prop} {k:X}
end
def HH (n:X) (f:X->Z):Prop:=∀a,a<n->f a=-1\/((a:Z)<f a/\f a<n)
def Vj (n:X) (f:X->Z) (a b:X):Prop:=a<n/\f a=(b:Z)
def Sub (n:X) (f:X->Z) (a b:X):Prop:=Dj (Vj n f) a b
section
variable {n:X} {f:X->Z} (A:HH n f)
include A
def gd (n:X) (f:X->Z) (b:X):X:=Oe (λa=>Sub n f a b) n
def UG (n:X) (f:X->Z):Prop:=∀a,a<n->∀b,Sub n f b a->a<b+gd n f a
end
end
section
section
variable {B:akW} (C:fw B) (A:B.length<=200)
include C A
end
def aaD (b:ak7) (n a:X):Z:=(b[a+1]?).getD n
section
variable {n:X} {f:X->Z} (D:HH n f) (A:n<=200)
include D A
end
end
section
theorem WR (A:akW) (a:X):(hh A a).length<=A.length:=WP A a A.length
section
variable {A:akW} (B:fw A) (C:A.length<=200)
include B C
end
end
section
section
variable {A:akW} (B:fw A) (C:A.length<=200)
include B C
theorem ae4:Bb ((A,()),())=Y (aC A.length (hh A),0,()):=ae3 B (B.hc C) C
end
end
end Go.l0
end
