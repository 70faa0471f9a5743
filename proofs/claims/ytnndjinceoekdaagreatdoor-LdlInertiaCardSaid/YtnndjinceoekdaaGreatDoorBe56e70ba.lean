/-
  Parts of the proof: Pl5, Th1, Pl6, Pl8, Pl9, Pl10, Pl12, ThT, Pa2, Pa3, Pa4, Pa5, Pa6, Pa7, Pa8, Pa9, Pa10, Pa11, Pa12, Pa13, Pa14, Pa15, Pa16, Pa17, Pa18, Pa19, Pa20, Pa21, Pa22, Pa23, Pa24, Pa25, Pa26, Pa27, Pa28, Pa29, Pm1, Pm2, G25, Pm3, Pm4, Pm5, Pm6, Pm7, Pm8, Pm9, Pm10, Pm11, Pm12, Pl13, Th2, Pl16, Pl18, Th3, Pl20, Pl21, Pl22, Pl23, Pl24, Pl25: the framework (Fw), pure forms (Dn), plain laws (Pl, Th), calls of functions (Ok).
-/
import Derived.Test.YtnndjinceoekdaaGreatDoorRows
import Derived.ProofKit
import Derived.Lib.LaidTab
import Derived.LaidMore
import Derived.Test.YtnndjinceoekdaaGreatDoorB736c7211

set_option linter.all false
set_option maxHeartbeats 1000000
open _root_ renaming Nat->X,Int->Z,Bool->bA,Unit->bt,Option->bv,False->b4,rfl->bn,decide_eq_true_eq->akt,List->bm,decide_eq_true->akb,decide_eq_false->akC,of_decide_eq_true->amm,Decidable->akI,beq_self_eq_true->akB,cond_true->bG,decide_eq_decide->aj8,if_pos->b8,cond_false->bP,if_neg->cc,bne_self_eq_false->aoh,congrArg->b6
open Go.jy.ae renaming loop->akn,eq_iff->bO,fb->bZ,fg->b0,af->bu,kQ->aki,mono->cx,yb->alP
open Option renaming some->Y,bind->bB,none->bo,bind_some->bK,map_some->alX
open Decidable renaming decide->br
open List renaming pairwise_iff_getElem->cA,getElem?_eq_getElem->bX,getD->alc,getElem_mem->b3,mem_singleton->akc,range->bJ,pairwise_lt_range->an6,length_filter_le->aky,length_map->cg,range_succ->akD,mem_iff_getElem->ak0,length_take->akv,take_add_one->akd,take_length->cB,replicate->bI,getElem?_eq_none->alM,getElem?_take->amK,take_of_length_le->cl,getLast?_eq_getElem?->ao4,getElem_set_self->ao8,drop->aob,length_drop->anS,set_append_right->apb,length_set->ams,take_zero->alV,nil_append->aod,drop_replicate->apg,drop_drop->al5,take_append_drop->amj,append_assoc->ald,length_append->akG,pairwise_append->apo,map_append->amA,mem_take_iff_getElem->amB,take_sublist->amC,filter_eq_self->alB,ext_getElem->amo,map_congr_left->aks,mem_cons_self->alY,pairwise_cons->amc,filter_nil->ani,getElem_set->apr
open Nat renaming lt_or_ge->cn,le_trans->cw,and_le_left->aoY,or_lt_two_pow->aoZ,and_two_pow_sub_one_eq_mod->an7,add_comm->al9,div_add_mod->amf,two_pow_pos->alQ,pow_lt_pow_right->ao1,le_antisymm->an8,div_lt_iff_lt_mul->amU,le_div_iff_mul_le->ao2,mul_div_cancel->an9,mul_le_mul_left->am6,pow_mul->aoa,le_refl->cd,eq_of_testBit_eq->ao5,testBit_and->ao6,testBit_two_pow->anY,sub_self->alf,add_sub_cancel->aoc,blt->b9,sub_zero->amZ,zero_add->apf,min_eq_left->alu,le_mul_of_pos_right->apn,div_eq_of_lt->anf,div_le_self->ang,mul_add_div->aoi,mul_le_mul->anh
open Go.IntKind renaming u64->bD,wrap->alN,signed->aoX,i64->bL,u32->cb,u8->an3
open Go.jy renaming wrap64->cu
open List.Pairwise renaming filter->apZ,nil->amb,sublist->apq
open Bool renaming false->bp,true->bq,true_and->amk
open Int renaming toNat_natCast->akE,fdiv_eq_ediv_of_nonneg->ao0,lt_or_le->ak1,mul_nonneg->alS,le_of_lt->akj,le_total->ao3,add_comm->am7,add_zero->amq,emod_add_mul_ediv->alv,sub_zero->am8,zero_add->alw,mul_lt_mul_of_pos_right->am9,emod_emod_of_dvd->ao7,mul_emod_left->ana,mul_emod_mul_of_pos->ao9,mul_eq_zero->amr,mul_zero->alT,one_mul->alU,mul_comm->akF,ediv_ediv_of_nonneg->apa,ediv_nonneg->ak2,le_ediv_iff_mul_le->anb,mul_add->apc,mul_one->apd,ediv_lt_of_lt_mul->ape,emod_lt_of_pos->amt,emod_nonneg->amv,mul_le_mul_of_nonneg_left->amw,mul_assoc->amx,lt_of_mul_lt_mul_left->amy,mul_neg_of_pos_of_neg->aph,mul_ediv_cancel_left->api,natCast_mul->ama,le_refl->alb,ediv_le_self->amz,emod_neg->apj,ediv_neg->apk,pow_add->apl,natAbs_neg->alW,zero_sub->apm,eq_ofNat_of_zero_le->cy,natAbs_natCast->anc,add_mul->ane,natAbs_add_le->aoe,natCast_ediv->aof,natCast_emod->aog
open BitVec renaming ofInt->cf
open Go.jy.e9 renaming eq->alR,zero->am5
open Go.jy.aR renaming nil->akJ,lT->akK,append->amu,cons->ak3
open Go renaming IntKind->cr,World->bC
open Go.Proofs.Tryz renaming prog->cm
open Go.World renaming cell?->alk
open Go.jy.ah renaming size->aku
open List.Sublist renaming filter->ap0
noncomputable section
namespace Go.jy
variable{a c j:X}{b e u:Z}{d f g:aj6}{h l:bA}{i:et}{k p:ez}{m t:Type}{n:er}{o:Prop}{q:X->Prop}{r:aj2}{v:(ej×Z×Z×bf×bt)->Prop}{w:ep}{x:(ej×Z×bf×bt)->Prop}
section
def q6 (a:aj6) (c:Z):Prop:=a.Pairwise (· < ·)/\∀b∈a,0<=b/\b<c
theorem ae.count {g:m->bv (m⊕t)} {f:t->Prop} (d:m->Z) (c:X) (e:X->m->Prop) {i0:X} {i:m} (p:d i=(i0:Z)) (o:e i0 i) (k:i0<=c) (r:∀a b,i0<=a->a<c->d b=(a:Z)->e a b->ae (g b) (λ|.inl l=>d l=((a+1:X):Z)/\e (a+1) l|.inr h=>f h)) (u:∀b,d b=(c:Z)->e c b->ae (g b) (λ|.inl _=>b4|.inr h=>f h)):ae (jy.loop g i) f:=by
 refine akn (λb=>∃a:X,i0<=a/\a<=c/\d b=(a:Z)/\e a b) (λb=>c-(d b).toNat) ⟨i0,bd _,k,p,o⟩ ?_;rintro b ⟨a,q,k,n,s⟩;rcases cT a c with j|j
 ·refine(r a b q j n s).mono ?_;grind
 grind [mono]
open Classical in
theorem Vn (b:aj6) (d:Z) (u:b.length<4611686018427387904):C8 (b,d,())=Y (br (q6 b d),()):=by
 rw[<-bO];unfold C8;simp only[bZ];refine ae.count (λi=>i.2.1) b.length (λa i=>i.1=(if a=0 then-1 else b.getD (a-1) 0)/\(b.take a).Pairwise (· < ·)/\∀e∈b.take a,0<=e/\e<d) (i0:=0) rfl ⟨bn,ac,ac⟩ (eU _) ?_ ?_
 ·rintro a ⟨h,x,_⟩ _ n j ⟨f,r,m⟩;simp only at j f;subst j;simp only[b0,bZ,bu,aki];have v:∀e∈b.take a,e<=h:=by
   intro e q;rw[f];obtain⟨y,p,rfl⟩:=g1.1 q;simp only[gn] at p;have o:a≠0:=aa;rw[au o];grind [cA,cn,bX]
  have w:-1<=h:=by
   rw[f];by_cases g:a=0
   ·omega
   rw[au g];simp only[alc,bi (aa:a-1<b.length),wX];have:=m (b[a-1]) (g1.2 ⟨a-1,by grind,ac⟩);omega
  have s:(b[a]<=h\/d<=b[a])->¬q6 b d:=by
   rintro c ⟨z,A⟩;rcases c with c|c
   ·rw[f] at c;by_cases g:a=0
    ·grind
    rw[au g] at c;grind [cA,bX]
   grind [b3]
  refine⟨λ_=>⟨n,λk=>⟨λl=>?_,λl=>?_⟩,λk=>?_⟩,λt=>by grind⟩
  ·grind
  ·simp at k l;refine⟨jg aa,?_,?_,?_⟩
   ·grind
   ·grind [akc,ug]
   grind [ug,akc]
  grind
 simp_all [b0,bu,hM,q6]
theorem LY (a b:Z):u2 (a,b,())=Y (br (a<b),()):=by grind [u2,s2]
theorem LC (a:Z) (b:0<=a) (c:a<18446744073709551616):bD.wrap a=a:=by unfold alN;rw[au (by simp[aoX])];show a %18446744073709551616=a;omega
theorem LJ (b:aj6) (e:Z) (B:b.length<4611686018427387904) (D:b.Pairwise (· < ·)):ae (vd (b,e,())) (λv=>v.2.1=br (e∈b)):=by
 unfold vd;simp only[bZ];refine cx (P:=λu=>∃a:X,u.1=(a:Z)/\a<=b.length/\(∀c,(f:c<b.length)->c<a->b[c]<e)/\(∀c,(f:c<b.length)->a<=c->e<=b[c])) ?_ ?_
 ·refine akn (λg=>∃a d:X,g.1=(a:Z)/\g.2.1=(d:Z)/\a<=d/\d<=b.length/\(∀c,(f:c<b.length)->c<a->b[c]<e)/\(∀c,(f:c<b.length)->d<=c->e<=b[c])) (λg=>(g.2.1-g.1).toNat) ⟨0,b.length,bn,bn,eU _,bd _,λc _ f=>by omega,λc j h=>by omega⟩ ?_;rintro⟨t,E,_⟩ ⟨a,d,rfl,rfl,A,o,j,h⟩;simp only[b0,bZ,bu];refine⟨λi=>?_,λn=>?_⟩
  ·have i:a<d:=(by grind);have ao:bL.wrap ((a:Z)+d)=(a:Z)+d:=cu aa aa;rw[ao,LC _ aa aa];have s:eN bD ((a:Z)+d) 1=Y (((a+d)/2:X):Z):=by
    unfold eN;rw[aw aa];congr 1;show((a:Z)+d).fdiv (2^min 1 64)=_;grind
   rw[s];simp only[bu];have m:bL.wrap (((a+d)/2:X):Z)=(((a+d)/2:X):Z):=cu aa aa;rw[m,aki];refine⟨aa,?_⟩;rw[LY];simp only[bu,b0];have y:(a+d)/2<b.length:=aa;refine⟨λk=>?_,λk=>?_⟩
   ·have k:b[(a+d)/2]<e:=(by grind);rw[jg aa];refine⟨⟨(a+d)/2+1,d,bn,bn,aa,o,λc l p=>?_,h⟩,aa⟩;grind [Int.lt_trans,cA,cn]
   have k:e<=b[(a+d)/2]:=(by grind);refine⟨⟨a,(a+d)/2,bn,bn,aa,aa,j,λc l p=>?_⟩,aa⟩;grind [cA,cn]
  grind
 rintro⟨t,_⟩ ⟨a,rfl,z,j,h⟩;simp only;have C:(∀f:a<b.length,b[a]≠e)->e∉b:=by
  intro r q;obtain⟨c,l,rfl⟩:=g1.1 q;rcases sG c a with f|f|f
  ·grind
  ·grind
  have w:=h a aa (bd _);grind [cA]
 simp only[b0,bZ,bu,aki];refine⟨λi=>?_,λn=>?_⟩
 ·have i:a<b.length:=(by grind);refine⟨i,λr=>?_,λx=>?_⟩
  ·grind [bu,DS]
  grind
 grind
structure fu (nh:et):Prop where
 asc:∀v,(h:v<nh.length)->q6 nh[v] nh.length
 O2:∀v,(h:v<nh.length)->(v:Z)∉nh[v]
 sym:∀v,(h:v<nh.length)->∀w:X,(hw:w<nh.length)->(w:Z)∈nh[v]->(v:Z)∈nh[w]
open Classical in
def i7 (a:et):Z:=if 200<a.length then 6 else if fu a then 0 else 1
open Classical in
theorem Je (a:et) (b:X) (c:Z) (f:b<a.length) (d:a[b].length<4611686018427387904) (e:a[b].Pairwise (· < ·)):xv ((a,()),(b:Z),c,())=Y (br (c∈a[b]),()):=by rw[<-bO];grind [bu,LJ,bZ,aki,xv]
theorem GL (a:et) (p:∀z∈a,z.length<4611686018427387904):zQ ((a,()),())=Y (i7 a,()):=by
 classical
 rw[<-bO];unfold zQ;simp only[b0,bZ,bu];refine⟨λi=>?_,λi=>?_⟩
 ·grind [i7]
 have G:¬200<a.length:=(by grind);have C:¬fu a->(1:Z)=i7 a:=λi=>(by grind [i7]);refine cx (P:=λh=>(h=.inr (1,())/\¬fu a)\/(h=.inl ()/\∀d,(i:d<a.length)->q6 a[d] a.length/\(d:Z)∉a[d])) ?_ ?_
 ·refine ae.for (i0:=0) a.length (λc _=>∀d,d<c->(i:d<a.length)->q6 a[d] a.length/\(d:Z)∉a[d]) rfl (λd l=>by omega) (eU _) ?_ ?_
  ·rintro c _ _ g t;simp only[b0,bZ,bu,aki];refine⟨λ_=>⟨g,?_⟩,λr=>by grind⟩;rw[Vn _ _ (p _ (cF g))];simp only[bu];refine⟨λq=>?_,λq=>.inl ⟨trivial,λf=>?_⟩⟩
   ·have q:q6 a[c] a.length:=(by grind);rw[Je a c c g (p _ (cF g)) q.1];simp only[bu,b0];refine⟨λx=>.inl ⟨trivial,λf=>f.O2 c g (by grind)⟩,λx=>⟨jg aa,λd l D=>?_⟩⟩;grind
   have:=f.asc c g;grind
  simp_all [b0,bu,trivial]
 rintro h (⟨rfl,f⟩|⟨rfl,o⟩)
 ·grind [bu]
 simp only[bZ];have J:(∀e,(i:e<a.length)->∀k∈a[e],∀b:X,k=(b:Z)->(j:b<a.length)->(e:Z)∈a[b])->fu a:=λi=>⟨λe f=>(o e f).1,λe f=>(o e f).2,λe f b j s=>i e f b s b bn j⟩;refine cx (P:=λh=>(h=.inr (1,())/\¬fu a)\/(h=.inl ()/\∀e,(i:e<a.length)->∀k∈a[e],∀b:X,k=(b:Z)->(j:b<a.length)->(e:Z)∈a[b])) ?_ ?_
 ·refine ae.for (i0:=0) a.length (λc _=>∀e,e<c->(i:e<a.length)->∀k∈a[e],∀b:X,k=(b:Z)->(j:b<a.length)->(e:Z)∈a[b]) rfl (λd l=>by omega) (eU _) ?_ ?_
  ·rintro c _ _ g t;simp only[b0,bZ,aki];refine⟨λ_=>⟨g,?_⟩,λr=>by grind⟩;have E:=p _ (cF g);refine cx (P:=λh=>(h=.inr (.inr (.inr (1,())))/\¬fu a)\/(h=.inl ()/\∀k∈a[c],∀b:X,k=(b:Z)->(j:b<a.length)->(c:Z)∈a[b])) ?_ ?_
   ·refine ae.for (i0:=0) a[c].length (λd _=>∀m,m<d->(i:m<a[c].length)->∀b:X,a[c][m]=(b:Z)->(j:b<a.length)->(c:Z)∈a[b]) rfl (λd l=>by omega) (eU _) ?_ ?_
    ·rintro d _ _ l v;simp only[b0,bZ,aki];refine⟨λ_=>⟨l,?_⟩,λr=>by grind⟩;have I:=(o c g).1.2 _ (cF l);obtain⟨b,j⟩:∃b:X,a[c][d]=(b:Z):=⟨a[c][d].toNat,aa⟩;have n:b<a.length:=aa;rw[j,Je a b c n (p _ (cF n)) (o b n).1.1];simp only[bu,b0];refine⟨λH=>.inl ⟨trivial,λf=>?_⟩,λM=>⟨jg aa,λm s F B K L=>?_⟩⟩
     ·have:=f.sym c g b n (j▸cF l);grind
     rcases cT m d with u|u
     ·grind
     obtain rfl:m=d:=aa;have:B=b:=aa;grind
    intro A v;simp only[b0,bu];refine⟨λr=>by grind,λ_=>.inr ⟨trivial,λk y b j n=>?_⟩⟩;obtain⟨m,s,rfl⟩:=g1.1 y;grind
   rintro h (⟨rfl,f⟩|⟨rfl,w⟩)
   ·simp_all [trivial,bu]
   grind [bu,jg,cn]
  intro A t;simp only[b0,bu];grind
 rintro h (⟨rfl,f⟩|⟨rfl,w⟩)
 ·grind [bu]
 grind [bu,i7]
end
section
inductive rq (A:X->X->Prop) (k:X):X->X->Prop
 |one {i j:X}:A i j->rq A k i j
 |step {i m j:X}:A i m->m<k->rq A k m j->rq A k i j
section
variable {A:X->X->Prop} {k:X}
end
end
section
def j9 (A:et) (a b:X):Prop:=∃c:a<A.length,(b:Z)∈A[a]
def j9.lt {A:et} (f:fu A) (b:j9 A a c):a<A.length/\c<A.length:=by obtain⟨d,e⟩:=b;have:=(f.asc a d).2 _ e;omega
def j9.symm {A:et} (e:fu A):∀a b,j9 A a b->j9 A b a:=λa b c=>by obtain⟨f,d⟩:=c.lt e;exact⟨d,e.sym a f b d c.2⟩
def j9.ne {A:et} (e:fu A) (b:j9 A a c):a≠c:=λd=>by subst d;exact e.O2 a b.1 b.2
def rq.lt {A:et} (b:fu A) {e c j:X} (a:rq (j9 A) e c j):c<A.length/\j<A.length:=by
 induction a with
 |one a=>exact a.lt b
 |step a _ _ d=>exact⟨(a.lt b).1,d.2⟩
inductive Cv (R:X->X->Prop):X->X->Prop
 |refl (u:X):Cv R u u
 |step {u p v:X}:R u p->Cv R p v->Cv R u v
section
variable (A:et)
variable {A} {j:X} {T:X->Prop} {par B:aj6}
end
end
section
def y9 (c:et) (a b:X):Prop:=b=a\/(a<b/\rq (j9 c) a a b)
open Classical in
def uZ (c:et) (b d:X):aj6:=((bJ d).filter λa=>br (b<=a/\y9 c b a)).map λ(a:X)=>(a:Z)
def g4 (a:et) (b:X):aj6:=uZ a b a.length
def y9.le (b:y9 i c a):c<=a:=by rcases b with b|b<;>omega
def vP:(a:Z)∈g4 i c↔a<i.length/\y9 i c a:=by
 unfold g4 uZ;simp only[eQ,hU,gD,akt];constructor
 ·rintro⟨e,⟨d,b⟩,f⟩;have:e=a:=aa;subst this;exact⟨d,b.2⟩
 exactλ⟨d,b⟩=>⟨a,⟨d,b.le,b⟩,bn⟩
def K1 (c:X->bA) (b:X):(((bJ b).filter c).map λ(a:X)=>(a:Z)).Pairwise (· < ·):=by rw[ou];refine apZ _ ?_;exact an6.imp (λd=>by omega)
def Nr (a:et) (b:X):(g4 a b).Pairwise (· < ·):=K1 _ _
def V8 (b:et) (c a:X):(uZ b c a).length<=a:=by unfold uZ;rw[eP];exact c4 (lB _ _) ac
end
theorem LV (a:aj6) (b:Z) (h:a.length<4611686018427387904):Ah (a,b,())=Y (br (b∈a),()):=by
 rw[<-bO];unfold Ah;simp only[bZ];refine ae.for (i0:=0) a.length (λc _=>b∉a.take c) rfl ac (eU _) ?_ ?_
 ·rintro c _ _ d e;simp only[b0,bZ,bu,aki];refine⟨λ_=>⟨d,λf=>?_,λi=>⟨jg aa,?_⟩⟩,λg=>by grind⟩
  ·grind
  grind [ug,akc]
 simp_all [b0,bu,hM]
def TI (a:Z):bD.wrap a=a %18446744073709551616:=by unfold alN;rw[au (by simp[aoX])];rfl
def hF (a:er) (b c:X):bA:=(a.getD b []).getD c bp
def mQ (c:er) (b d:X):aj6:=((bJ d).filter λa=>b !=a&&(hF c b a||hF c a b)).map λ(a:X)=>(a:Z)
def jZ (a:er):et:=(bJ a.length).map λb=>mQ a b a.length
theorem Pw (b:er) (c a:X):(mQ b c a).length<=a:=by grind [cw,aky,cg,mQ]
theorem Px (c:er) (b a:X):mQ c b (a+1)=mQ c b a++(if(b !=a&&(hF c b a||hF c a b))=bq then[(a:Z)] else[]):=by unfold mQ;rw[jB,o5,jR];grind
theorem xf (b:a<n.length) (d:c<n[a].length):hF n a c=n[a][c]:=by grind [alc,hF]
theorem LQ (a:er) (p:∀k∈a,k.length=a.length) (y:a.length<=4294967296):Ay (a,())=Y ((jZ a,()),()):=by
 rw[<-bO];unfold Ay;have v:hJ=4294967296:=rfl;simp only[bZ];refine cx (P:=λd=>d.2.1.1=jZ a) ?_ ?_
 ·refine ae.for (i0:=0) a.length (λc l=>l.2.1.1=(bJ c).map λc=>mQ a c a.length) rfl rfl (eU _) ?_ ?_
  ·rintro c ⟨l,h,_⟩ _ i g;simp only at g;simp only[b0,bZ,bu];refine⟨λ_=>?_,λm=>by grind⟩;refine cx (P:=λd=>d.2.1=h/\d.2.2.1=mQ a c a.length) ?_ ?_
   ·refine ae.for (i0:=0) a.length (λe d=>d.2.1=h/\d.2.2.1=mQ a c e) rfl ⟨bn,bn⟩ (eU _) ?_ ?_
    ·rintro e ⟨s,q,k,_⟩ _ j ⟨n,o⟩;simp only at o n;subst n;have t:=p _ (cF i);have u:=p _ (cF j);simp only[b0 (b:=decide _),bZ (x:=bB _ _)];refine⟨λ_=>?_,λm=>by grind⟩;rw[bZ];refine cx (P:=λd=>d=((c !=e&&(hF a c e||hF a e c)),s,q,k,())) ?_ ?_
     ·simp only[b0,bZ,bu,aki];rw[xf i aa,xf j aa];refine⟨λf=>⟨i,aa,λr=>⟨j,aa,?_⟩,λr=>?_⟩,λf=>?_⟩
      ·have f:c≠e:=(by grind);grind
      ·have f:c≠e:=(by grind);grind
      grind
     rintro d rfl;have w:=Pw a c e;simp only[b0,bZ,bu,alP];refine⟨λf=>⟨by grind,jg aa,trivial,?_⟩,λf=>⟨jg aa,trivial,?_⟩⟩
     ·rw[Px,aw f,o]
     simp_all [Px,au,oq]
    simp_all [b0,bu,trivial]
   grind [bZ,bu,alP,jg,akD]
  rintro⟨l,h,_⟩ g;simp only at g;simp only[b0,bu];exact⟨λm=>by grind,λ_=>g⟩
 grind [bu]
theorem PM:(a:Z)∈mQ n c j↔a<j/\c≠a/\(hF n c a||hF n a c)=bq:=by unfold mQ;grind
theorem IQ (b:er):fu (jZ b):=by
 have e:(jZ b).length=b.length:=(by simp[jZ]);have d:∀a,(c:a<(jZ b).length)->(jZ b)[a]=mQ b a b.length:=λa c=>(by simp[jZ]);refine⟨λa c=>?_,λa c=>?_,λa c i h g=>?_⟩
 ·rw[d a c,e];refine⟨K1 _ _,λj f=>?_⟩;unfold mQ at f;grind
 ·grind [PM]
 grind [PM,Bool.or_comm]
def XI (a:er):(jZ a).length=a.length:=by simp[jZ]
theorem XJ (b:er):∀a∈jZ b,a.length<=b.length:=by intro a c;unfold jZ at c;grind [Pw]
def V9 (r:fu i) (s:a<i.length):∃f,g4 i a=(a:Z)::f/\(∀c∈f,∃b:X,c=(b:Z)/\a<b/\b<i.length/\rq (j9 i) a a b)/\(∀b:X,a<b->rq (j9 i) a a b->(b:Z)∈f)/\f.Pairwise (· < ·):=by
 have l:(a:Z)∈g4 i a:=vP.2 ⟨s,.inl bn⟩;have h:=Nr i a;have j:∀c∈g4 i a,∃b:X,c=(b:Z)/\b<i.length/\y9 i a b:=(by intro c e;have t:=e;unfold g4 uZ at e;simp only[eQ] at e;obtain⟨b,_,rfl⟩:=e;exact⟨b,bn,vP.1 t⟩);generalize q:g4 i a=o at l h j;cases o with
 |nil=>cases l
 |cons c f=>
  rw[m7] at h;have e:c=(a:Z):=by
   obtain⟨b,rfl,_,k⟩:=j c (js ..);have:=k.le;rcases fC.1 l with d|d
   ·exact d.symm
   have:=h.1 _ d;omega
  subst e;refine⟨f,bn,λu n=>?_,λb k m=>?_,h.2⟩
  ·obtain⟨b,rfl,p,g⟩:=j u (gC _ n);have:=h.1 _ n;rcases g with g|g
   ·omega
   exact⟨b,bn,g.1,p,g.2⟩
  have:(b:Z)∈g4 i a:=vP.2 ⟨(m.lt r).2,.inr ⟨k,m⟩⟩;rw[q] at this;rcases fC.1 this with d|d
  ·omega
  exact d
theorem gg {b:bm m} {c:m} (d:b[a]?=Y c):ar b (a:Z)=Y c:=by unfold ar;rw[aw aa,fU,d]
theorem Hf (b:et):fu b↔∀a,(f:a<b.length)->b[a].Pairwise (· < ·)/\∀c,(e:c<b[a].length)->(0<=b[a][c]/\b[a][c]<b.length)/\b[a][c]≠(a:Z)/\(a:Z)∈b.getD (b[a][c]).toNat []:=by
 constructor
 ·rintro⟨g,j,k⟩ a d;refine⟨(g a d).1,λc e=>?_⟩;have l:=(g a d).2 _ (cF e);grind
 intro f;refine⟨λa d=>⟨(f a d).1,λp n=>?_⟩,λa d h=>?_,λa d o m h=>?_⟩
 ·grind [ak0]
 ·grind [ak0]
 obtain⟨c,e,i⟩:=g1.1 h;grind [akE,bX]
theorem KN (a:et) (s:∀B∈a,B.length<4611686018427387904):xO ((a,()),())=Y (i7 a,()):=by
 classical
 rw[<-bO];unfold xO;simp only[b0,bu,bZ];refine⟨λd=>?_,λd=>?_⟩
 ·grind [i7]
 have E:¬200<a.length:=(by grind);refine cx (P:=λg=>(g=.inl ()/\fu a)\/(g=.inr (1,())/\¬fu a)) ?_ ?_
 rotate_left
 ·rintro _ (⟨rfl,e⟩|⟨rfl,e⟩)
  ·grind [bu,i7]
  grind [bu,i7]
 refine ae.for (i0:=0) a.length (λn _=>∀b,(d:b<a.length)->b<n->a[b].Pairwise (· < ·)/\∀c,(f:c<a[b].length)->(0<=a[b][c]/\a[b][c]<a.length)/\a[b][c]≠(b:Z)/\(b:Z)∈a.getD (a[b][c]).toNat []) rfl (λb _ d=>by omega) (eU _) ?_ ?_
 ·rintro b _ _ e i;have A:=s _ (cF e);simp only[b0,bu,bZ,aki];refine⟨λ_=>⟨e,?_⟩,λh=>by grind⟩;rw[TR _ A];simp only[bu];refine⟨λl=>.inr ⟨trivial,λk=>?_⟩,λl=>?_⟩
  ·have:=(k.asc b e).1;grind
  have l:a[b].Pairwise (· < ·):=(by grind);refine cx (P:=λg=>(g=.inl ()/\∀c,(f:c<a[b].length)->(0<=a[b][c]/\a[b][c]<a.length)/\a[b][c]≠(b:Z)/\(b:Z)∈a.getD (a[b][c]).toNat [])\/(g=.inr (.inr (.inr (1,())))/\¬fu a)) ?_ ?_
  rotate_left
  ·rintro _ (⟨rfl,t⟩|⟨rfl,t⟩)
   ·simp only[bu];refine⟨jg aa,λp z G=>?_⟩;rcases cT p b with d|d
    ·exact i p z d
    obtain rfl:p=b:=aa;exact⟨l,t⟩
   simp_all [bu,trivial]
  refine ae.for (i0:=0) a[b].length (λn _=>∀c,(f:c<a[b].length)->c<n->(0<=a[b][c]/\a[b][c]<a.length)/\a[b][c]≠(b:Z)/\(b:Z)∈a.getD (a[b][c]).toNat []) rfl (λb _ d=>by omega) (eU _) ?_ ?_
  ·rintro c _ _ f j;have m:¬((0<=a[b][c]/\a[b][c]<a.length)/\a[b][c]≠(b:Z)/\(b:Z)∈a.getD (a[b][c]).toNat [])->¬fu a:=λd k=>d (((Hf a).1 k b e).2 c f);simp only[b0,bu,bZ,aki];refine⟨e,λ_=>⟨e,f,λq=>⟨λr=>⟨λu=>?_,λu=>?_⟩,λr=>?_⟩,λq=>?_⟩,λh=>by simp_all⟩
   ·have y:0<=a[b][c]/\a[b][c]<(a.length:Z):=(by simp_all);have F:a[b][c]≠(b:Z):=(by simp_all);rw[ae.OD];refine⟨aa,y.1,?_⟩;rw[LV _ _ (s _ (cF _))];have C:a.getD (a[b][c]).toNat []=a[(a[b][c]).toNat]'(by omega):=by
     simp_all
    simp only[bu];refine⟨λv=>.inr ⟨trivial,m ?_⟩,λv=>⟨jg aa,λo x D=>?_⟩⟩
    ·simp_all
    rcases cT o c with d|d
    ·exact j o x d
    obtain rfl:o=c:=aa;simp_all
   ·simp_all
   ·refine .inr ⟨trivial,m (λw=>?_)⟩;simp at r;omega
   refine .inr ⟨trivial,m (λw=>?_)⟩;simp at q;omega
  rintro _ j;simp only[b0,bu,bZ,aki];exact⟨e,λh=>by simp at h,λ_=>.inl ⟨trivial,λc f=>j c f f⟩⟩
 rintro _ i;simp only[b0,bu];exact⟨λh=>by grind,λ_=>.inl ⟨trivial,(Hf a).2 λb e=>i b e e⟩⟩
theorem Ut (a:aj6) (c:Z) (q:a.length<4611686018427387904):Ek (a,c,())=Y (br (∀b∈a,0<=b/\b<c),()):=by
 rw[<-bO];unfold Ek;simp only[bZ];refine cx (P:=λi=>(i=.inl ()/\∀b∈a,0<=b/\b<c)\/(i=.inr (bp,())/\¬∀b∈a,0<=b/\b<c)) ?_ ?_
 ·refine ae.for (i0:=0) a.length (λf _=>∀d,(e:d<a.length)->d<f->0<=a[d]/\a[d]<c) rfl (λd _ e=>by omega) (eU _) ?_ ?_
  ·rintro f _ _ g l;have h:¬(0<=a[f]/\a[f]<c)->¬∀b∈a,0<=b/\b<c:=λe n=>e (n _ (cF g));simp only[b0,bZ,bu,aki];refine⟨λ_=>⟨g,λj=>⟨g,λk=>.inr ⟨trivial,h (λe=>?_)⟩,λk=>⟨jg aa,λd o p=>?_⟩⟩,λj=>.inr ⟨trivial,h (λe=>?_)⟩⟩,λm=>by grind⟩
   ·grind
   ·grind
   grind
  rintro _ l;simp only[b0,bu];refine⟨λm=>by grind,λ_=>.inl ⟨trivial,λb r=>?_⟩⟩;grind [ak0]
 grind [bu,akb,akC]
theorem Qe:d.Nodup↔∀a,(b:a<d.length)->d[a]∉d.take a:=by grind [ak0,akv,cA]
theorem UB (a:aj6) (m:a.length<4611686018427387904):Em (a,())=Y (br (¬a.Nodup),()):=by
 rw[<-bO];unfold Em;simp only[bZ];refine cx (P:=λe=>(e=.inl ()/\a.Nodup)\/(e=.inr (bq,())/\¬a.Nodup)) ?_ ?_
 ·refine ae.for (i0:=0) a.length (λc _=>∀b,(d:b<a.length)->b<c->a[b]∉a.take b) rfl (λb _ d=>by omega) (eU _) ?_ ?_
  ·rintro c _ _ g h;have ao:g8 (c:Z)=Y c:=(by simp_all [aw,fU,g8]);have f:hZ 0 c a.length=Y ():=(by grind [hZ]);simp only[b0,bZ,bu,aki,ao,f,aE,ji,m5];refine⟨λ_=>⟨g,?_⟩,λj=>by grind⟩;rw[LV _ _ (by grind)];simp only[bu];refine⟨λd=>.inr ⟨trivial,λi=>?_⟩,λd=>⟨jg aa,λb k l=>?_⟩⟩
   ·simp_all [Qe,amm]
   grind
  simp_all [b0,bu,trivial,Qe]
 grind [bu,akC,akb]
def oX (a:et):er:=(bJ a.length).map λb=>(bJ a.length).map λ(c:X)=>br ((c:Z)∈a.getD b [])
theorem Lg (a:et):(oX a).length=a.length:=by simp[oX]
theorem S9 (b:a<i.length):(oX i)[a]?=Y ((bJ i.length).map λ(c:X)=>br ((c:Z)∈i[a])):=by simp[oX,b,alc]
theorem L9 (p:∀v∈i,v.length<4611686018427387904) (y:i.length<=200) (r:∀a,(f:a<i.length)->∀o∈i[a],0<=o/\o<(i.length:Z)):Az ((i,()),())=Y (oX i,()):=by
 rw[<-bO];unfold Az;have x:hJ=4294967296:=rfl;simp only[bZ];refine cx (P:=λd=>d.1=oX i) ?_ (by grind [bu]);refine ae.for (i0:=0) i.length (λu e=>e.1=(oX i).take u) rfl ac (eU _) ?_ ?_
 ·rintro a ⟨j,_⟩ _ b h;simp only at h;have A:=p _ (cF b);simp only[b0,bZ,ae.JF,fU];refine⟨λ_=>⟨⟨aa,aa,aa⟩,?_⟩,λq=>by grind⟩;refine cx (P:=λd=>d.1=j/\d.2.1=(bJ i.length).map λ(l:X)=>br ((l:Z)∈i[a])) ?_ ?_
  ·refine ae.for (i0:=0) i[a].length (λc e=>e.1=j/\e.2.1=(bJ i.length).map λ(l:X)=>br ((l:Z)∈i[a].take c)) rfl ⟨bn,?_⟩ (eU _) ?_ ?_
   ·apply ij;grind
   ·rintro c ⟨B,w,_⟩ _ g ⟨m,n⟩;simp only at m n;have t:=r a b _ (cF g);have z:w.length=i.length:=(by grind);simp only[b0,bZ,aki,ae.E8,ae.CC,bu];refine⟨b,λ_=>⟨b,g,⟨t.1,aa⟩,aa,jg aa,m,?_⟩,λq=>by grind⟩;apply ij;intro k;rw[zd,n,jQ,jQ];rcases cT k i.length with f|f
    ·rw[Ci f];simp only[ji,<-ug g,hn,gp,eP,o6];by_cases s:(i[a][c]).toNat=k
     ·grind
     rw[au s];have:¬(k:Z)=i[a][c]:=aa;grind
    grind
   simp_all [b0,bZ,aki,bu,hM]
  grind [bZ,alP,bu,jg,S9,akd]
 rintro⟨j,_⟩ h;simp only at h;simp only[b0,bu];grind [Lg,cB]
theorem N1 (a:X) (h:a<=4294967296):AA ((a:Z),())=Y (bI a (bI a bp),()):=by
 rw[<-bO];unfold AA;have g:hJ=4294967296:=rfl;simp only[bZ];refine cx (P:=λd=>d.1=bI a (bI a bp)) ?_ (by grind [bu]);refine ae.for (i0:=0) a (λb e=>e.1=bI b (bI a bp)) rfl rfl (eU _) ?_ ?_
 ·rintro b ⟨i,_⟩ _ f c;simp only at c;simp only[b0,bZ,bu,ae.JF,alP,fU];grind [List.replicate_succ',jg]
 simp_all [b0,bu]
section
def az {α:Type} (b:X) (a:X->α):bm α:=(bJ b).map a
def eB {α:Type} (b:X->α) (c:X) (d:α):X->α:=λa=>if a=c then d else b a
section
variable {α A B:Type}
theorem gG (c:X->α) (a:X) (b:α):eB c a b a=b:=aw bn
theorem hb (b:X->α) (e:α) (d:a≠c):eB b c e a=b a:=au d
theorem cN (a:X) (b:X->α):(az a b).length=a:=by simp[az]
theorem oG (c:X) (b:X->α) (a:X):(az c b)[a]?=if a<c then Y (b a) else bo:=by unfold az;grind
theorem gR {b:X->α} (d:a<c):(az c b)[a]?=Y (b a):=by rw[oG,aw d]
theorem lJ {b:X->α} (d:a<(az c b).length):(az c b)[a]=b a:=by simp[az]
theorem db {c d:X->α} (e:∀b,b<a->c b=d b):az a c=az a d:=iJ λb f=>e b (gD.1 f)
theorem Xn (a:X->α):az 0 a=[]:=rfl
theorem nT (b:X) (a:X->α):az (b+1) a=az b a++[a b]:=by simp[az,jB]
theorem iQ (a:X) (b:α):bI a b=az a λ_=>b:=by apply ij;grind [oG]
theorem hx {b:X->α} (d:α):(az c b).set a d=az c (eB b a d):=by apply ij;intro e;rw[zd,oG,oG,cN];unfold eB;grind
def PK {b:X->α} {d:α}:d∈az a b↔∃c,c<a/\b c=d:=by simp[az]
theorem Xm (a:bm α) (c:X->α) (d:∀b,(e:b<a.length)->a[b]=c b):a=az a.length c:=by apply ij;grind [alM,bX,oG]
theorem EO (c a:X) (b:X->α) (d:a<=c):(az c b).take a=az a b:=by apply ij;intro e;rw[amK,oG,oG];grind
theorem Xk (d a:X) (b:X->α):(az d b).drop a=az (d-a) (λc=>b (a+c)):=by apply ij;intro c;rw[p1,oG,oG];grind
theorem AN (b e:X) (c d:X->α):az b c++az e d=az (b+e) (λa=>if a<b then c a else d (a-b)):=by apply ij;intro a;rw[List.getElem?_append,cN,oG,oG,oG];grind
theorem fc {n i:X} (a:i<n):ba n (i:Z)=Y i:=by simp_all [aw,ba]
theorem hC {d:bm α} {c:α} {b:α->bv A} (e:d[a]?=Y c):a1 d a b=b c:=by grind [a1]
theorem gO {b:X->α} {d:α->bv A} (e:a<c):a1 (az c b) a d=d (b a):=hC (gR e)
def rS {b:X->α} (d:a<c):ar (az c b) (a:Z)=Y (b a):=gg (gR d)
theorem eS (b:a<=4294967296):cI a=Y ():=aw b
theorem h0 (b:a<=4294967296):fR (a:Z) (a:Z)=Y a:=by unfold fR;rw[aw ⟨aa,aa,by have:hJ=4294967296:=rfl;omega⟩];simp
theorem vW:g8 (a:Z)=Y a:=by simp_all [aw,g8]
theorem vI (b:c<=a/\a<=j):hZ c a j=Y ():=aw b
def Kw (b:0<a):wa a=Y ():=rfl
theorem fY (a b:Z):(a==b)=br (a=b):=by grind
theorem fL (a b:Z):(a !=b)=!br (a=b):=by grind
theorem aF [akI o] (a:o):decide o=bq:=akb a
theorem aA [akI o] (a:¬o):decide o=bp:=akC a
theorem aZ {a b:α} (c:h=bq):(bif h then a else b)=a:=by grind
theorem aW {b a:α} (c:h=bp):(bif h then b else a)=a:=by grind
theorem c3 [akI o] {a b:α}:(bif decide o then a else b)=if o then a else b:=by grind
theorem HR [akI o] {a b:α}:(bif decide o==bq then a else b)=if o then a else b:=by grind
theorem CR [akI o] {a b:α}:(bif decide o==bp then a else b)=if o then b else a:=by grind
theorem GJ (b:a<9223372036854775808):bL.wrap (a:Z)=(a:Z):=cu aa aa
theorem TJ (b:a+c<9223372036854775808):bL.wrap ((a:Z)+(c:Z))=((a+c:X):Z):=by grind [cu]
theorem agB (d:c<=a) (b:a<9223372036854775808):bL.wrap ((a:Z)-(c:Z))=((a-c:X):Z):=by grind [cu]
theorem B4 (c:1<=a) (b:a<9223372036854775808):bL.wrap ((a:Z)-1)=((a-1:X):Z):=by grind [cu]
theorem ls (b:a+1<9223372036854775808):bL.wrap ((a:Z)+1)=((a+1:X):Z):=by grind [cu]
end
def ae.of_eq {α:Type} {c:bv α} {a:α} {b:α->Prop} (d:c=Y a) (e:b a):ae c b:=⟨a,d,e⟩
theorem ae.aJ {α A:Type} {c:bv α} {b:α->bv A} {P:α->Prop} {a:A->Prop} (e:ae c P) (f:∀d,P d->ae (b d) a):ae (c.bind b) a:=
 bZ.2 (e.mono f)
theorem ae.ite {α:Type} [akI o] {b c:bv α} {a:α->Prop} (d:o->ae b a) (e:¬o->ae c a):ae (if o then b else c) a:=by grind
theorem ai {α A:Type} {c:bv α} {a:α->bv A} {y:α} {b:bv A} (d:c=Y y) (e:a y=b):c.bind a=b:=by grind
theorem A7 {f:Z×m->bv ((Z×m)⊕t)} {g:t} {h:m} (d:X) (c:X->m) (e:X) (j:b=(e:Z)) (k:h=c e) (i:e<=d) (o:∀a,e<=a->a<d->f ((a:Z),c a)=Y (.inl (((a+1:X):Z),c (a+1)))) (n:f ((d:Z),c d)=Y (.inr g)):loop f (b,h)=Y g:=by
 subst j k;rw[<-bO];refine ae.for d (λa l=>l=c a) rfl rfl i ?_ ?_
 ·grind [bu]
 grind [bu]
theorem Fp {τ:Type} {h:Z×τ->bv ((Z×τ)⊕m)} (f:X) (e:X->Prop) (g:τ) (l k:m) (d:X) (r:b=(d:Z)) (q:d<=f) (s:∀a,d<=a->a<f->(∀c,d<=c->c<a->e c)->h ((a:Z),g)=Y (open Classical in if e a then .inl (((a+1:X):Z),g) else .inr k)) (v:(∀c,d<=c->c<f->e c)->h ((f:Z),g)=Y (.inr l)):loop h (b,g)=Y (open Classical in if∀a,d<=a->a<f->e a then l else k):=by
 classical
 subst r;rw[<-bO];refine ae.for f (λa t=>t=g/\∀c,d<=c->c<a->e c) rfl ⟨bn,λc i u=>by omega⟩ q ?_ ?_
 ·rintro a _ n i ⟨rfl,o⟩;rw[s a n i o];by_cases j:e a
  ·rw[aw j];grind [cn,bu]
  rw[au j];exact bu.2 (by rw[au (λp=>j (p a n i))])
 rintro _ ⟨rfl,o⟩;simp_all [bu,aw]
theorem JB {d:Z×bt->bv dM} (c:X) (b:X->Prop) (h:∀a,a<c->d ((a:Z),())=Y (open Classical in if b a then .inl (((a+1:X):Z),()) else .inr (.inr ((a:Z),())))) (m:d ((c:Z),())=Y (.inr (.inl ()))):ae (loop d (0,())) (λi=>match i with|.inl _=>∀a,a<c->b a|.inr j=>0<=j.1/\¬∀a,a<c->b a):=by
 classical
 refine ae.for c (λa _=>∀e,e<a->b e) (i0:=0) rfl (λe k=>by omega) (eU _) ?_ ?_
 ·rintro a ⟨⟩ _ g l;rw[h a g];by_cases f:b a
  ·rw[aw f];grind [cn,bu]
  rw[au f];grind [bu]
 grind [bu]
end
theorem LA (a:Z):cb.wrap a=a %4294967296:=by unfold alN;exact au (ac:¬(bp&&br (a %4294967296>=(2147483648:Z)))=bq)
theorem B2 (a:Z):bD.wrap a=a %18446744073709551616:=by unfold alN;exact au (ac:¬(bp&&br (a %18446744073709551616>=(9223372036854775808:Z)))=bq)
theorem B3 (a:0<=b) (c:b<18446744073709551616):bD.wrap b=b:=by grind [B2]
theorem LB (a:0<=b) (c:b<4294967296):cb.wrap b=b:=by grind [LA]
theorem VM (b:a<18446744073709551616):(cf 64 (a:Z)).toNat=a:=by grind
theorem Mp (e:a<18446744073709551616) (f:c<18446744073709551616):e0 .u64 (a:Z) (c:Z)=((a&&&c:X):Z):=by have b:((cf 64 (a:Z))&&&(cf 64 (c:Z))).toNat=a&&&c:=(by grind);have d:a&&&c<=a:=aoY;unfold e0;rw[show bD.bits=64 from rfl,b];grind [B3]
theorem Mo (e:a<4294967296) (f:c<4294967296):e0 .u32 (a:Z) (c:Z)=((a&&&c:X):Z):=by have b:((cf 32 (a:Z))&&&(cf 32 (c:Z))).toNat=a&&&c:=(by grind);have d:a&&&c<=a:=aoY;unfold e0;rw[show cb.bits=32 from rfl,b];grind [LB]
theorem ac7 (d:a<18446744073709551616) (e:c<18446744073709551616):gv .u64 (a:Z) (c:Z)=((a|||c:X):Z):=by have b:(cf 64 (a:Z)|||cf 64 (c:Z)).toNat=a|||c:=(by grind);have f:a|||c<2^64:=aoZ d e;unfold gv;rw[show bD.bits=64 from rfl,b];grind [B3]
theorem ac6 (d:a<4294967296) (e:c<4294967296):gv .u32 (a:Z) (c:Z)=((a|||c:X):Z):=by have b:(cf 32 (a:Z)|||cf 32 (c:Z)).toNat=a|||c:=(by grind);have f:a|||c<2^32:=aoZ d e;unfold gv;rw[show cb.bits=32 from rfl,b];grind [LB]
theorem sP (a:X) (d:0<=b) (f:b<18446744073709551616) (c:Z) (e:a<=64) (i:c=2^a-1):e0 .u64 b c=b %2^a:=by obtain⟨k,rfl⟩:=gh d;have j:0<2^a:=j8 a;have g:c=((2^a-1:X):Z):=(by grind);have h:2^a<=2^64:=sI ab e;grind [Mp,an7]
theorem and_low32 (a:0<=b) (c:b<18446744073709551616):e0 .u64 b 4294967295=b %4294967296:=sP 32 a c _ ab ab
theorem nz (a:Z):eN .u64 a 32=Y (a/4294967296):=by have:eN .u64 a 32=Y (a.fdiv 4294967296):=rfl;grind
theorem n8 (a:0<=b) (c:b<=64):ig .u64 e b=Y ((e*2^b.toNat) %18446744073709551616):=by unfold ig;rw[aw a,B2,show bD.bits=64 from rfl,hN aa]
theorem ud (a:0<=b) (c:b<=64):eN .u64 e b=Y (e/2^b.toNat):=by unfold eN;rw[aw a,show bD.bits=64 from rfl,hN aa,ao0 _ (by grind)]
theorem Mr (b:X) (d:a<2^b):a|||(c*2^b)=a+c*2^b:=by rw[al9,Nat.or_comm,qb,Nat.two_pow_add_eq_or_of_lt d]
theorem nr (a:X) (d:0<=b) (h:b<2^a) (f:0<=e) (i:b<18446744073709551616) (j:e<18446744073709551616) (l:e %2^a=0):gv .u64 b e=b+e:=by obtain⟨g,rfl⟩:=gh d;obtain⟨c,rfl⟩:=gh f;have n:g<2^a:=(by grind);have m:c %2^a=0:=(by grind);rw[ac7 aa aa];have k:c=(c/2^a)*2^a:=(by grind [Nat.mul_comm,amf]);grind [Mr]
def aO (a:X):X:=if a=0 then 0 else a.log2+1
theorem fW {k:X}:aO a<=k↔a<2^k:=by grind [Nat.log2_lt,alQ,aO]
def uQ:a<aO c↔2^a<=c:=by rw[<-Nat.not_le,fW,Nat.not_lt]
def FR (a b:X) (c:a<=b):2^a<=2^b:=sI ab c
def Rj (a b:X) (c:a<b):2^a<2^b:=ao1 ab c
def kK (b:c<=a):aO c<=aO a:=by rw[fW];have:=fW.1 (bd (aO a));omega
theorem xi {b:X} (d:aO a<=j) (e:aO c<=b):aO (a*c)<=j+b:=by simp_all [Nat.mul_lt_mul'',fW,k2]
theorem ZM {b:X} (d:c<=b*a) (e:j<a):c+j<=(b+1)*a:=by grind
def Vy (a:X) {x y:X} (b:aO x<=a) (c:aO y<=a):aO (x+y)<=a+1:=by rw[fW] at*;omega
theorem adD {b:X} (e:c*2^j=a*2^b) (f:0<c):0<a:=by
 rcases rk a with d|d
 ·simp_all [Nat.mul_eq_zero,j8,Nat.zero_mul]
 omega
theorem qn {m:X} (a:0<m):0<aO m:=uQ.2 a
def MT {k:X} (b:2^k<=a) (c:a<2^(k+1)):aO a=k+1:=by have:=uQ.2 b;have:=fW.2 c;omega
theorem xh (b:0<a):2^(aO a-1)<=a/\a<2^aO a:=
 ⟨uQ.1 (by grind [qn]),fW.1 (bd _)⟩
theorem sV (d:0<a) (b:X):aO (a*2^b)=aO a+b:=by
 obtain⟨e,f⟩:=xh d;have i:=j8 b;have h:=qn d;obtain⟨c,g⟩:∃c,aO a=c+1:=⟨aO a-1,aa⟩;rw[g] at e f|-;rw[(aa:c+1+b=(c+b)+1)];refine MT ?_ ?_
 ·simp_all [iY,k2]
 rw[(aa:c+b+1=(c+1)+b),k2];simp_all
def CJ (b a:X):aO (b/2^a)=aO b-a:=by
 have c:=j8 a;apply an8
 ·rw[fW,amU c,<-k2];exact fW.1 aa
 rcases cT a (aO b) with d|d
 ·have:aO b-a-1<aO (b/2^a):=by
   rw[uQ,ao2 c,<-k2];exact uQ.1 aa
  omega
 omega
def wC (c:bA) (b:Z) (d:bA) (a:Z):bA:=
 if a=1 then c else if a=2 then !c else if a=3 then bp else br (0<b)||(br (b=0)&&d)
def mb (b a:X) (c:bA):Z:=
 if 2*(b %2^a)<2^a then-1 else if 2^a<2*(b %2^a) then 1 else if c then 1 else 0
def jG (e:bA) (a b:X) (c:bA) (d:Z):X:=
 if a %2^b=0/\c=bp then a/2^b
 else if wC e (mb a b c) (br (a/2^b %2=1)) d then a/2^b+1 else a/2^b
def ZH (b a c:X):b %2^(a+c)=(b/2^a %2^c)*2^a+b %2^a:=by rw[k2,Nat.mod_mul,al9,qb]
def mX (b:bA) (a:Z):Z:=if b then 9223372036854775808+a else a
def r5 (a:bA) (b:Z):Z:=
 if b=3\/(b=1/\a=bp)\/(b=2/\a=bq) then mX a 9218868437227405311 else mX a 9218868437227405312
def pF (a:bA) (b:X) (c d:Z):Z:=
 if b<4503599627370496 then mX a b
 else if b=9007199254740992 then if c+1+1075>=2047 then r5 a d else mX a ((c+1+1075)*4503599627370496)
 else if c+1075>=2047 then r5 a d else mX a ((c+1075)*4503599627370496+(b-4503599627370496))
def e2 (b:X) (a:Z):Z:=max (a+aO b-1-52) (-1074)
def n3 (d:bA) (b:X) (a:Z) (e:bA) (c:Z):Z:=
 if e2 b a<=a then pF d (b*2^(a-e2 b a).toNat) (e2 b a) c
 else pF d (jG d b (e2 b a-a).toNat e c) (e2 b a) c
def A2:X->X->X
 |0,_=>0
 |f+1,a=>if(2*A2 f (a/4)+1)*(2*A2 f (a/4)+1)<=a then 2*A2 f (a/4)+1 else 2*A2 f (a/4)
def Jd (a:X):X:=A2 (aO a) a
abbrev oc:=bA×aj6×bt
abbrev gB:=bA×oc×Z×bt
def hm (a:oc):Z:=if a.1 then-ag a.2.1 else ag a.2.1
def aN (a:Z):oc:=(br (a<0),eW a.natAbs,())
theorem oa (a:Z):hm (aN a)=a:=by unfold hm aN;simp only[th,akt];omega
theorem mK (a:Z):aR (aN a).2.1:=nj _
def EI (a:Z):e9 (aN a).2.1:=xR _
theorem hW (a:Z):ag (aN a).2.1=a.natAbs:=th _
theorem vw:(aN b).2.1=[]↔b=0:=by show eW b.natAbs=[]↔_;grind [WU]
theorem N2 {neg:bA} (a:aR d) (b:e9 d):(neg&&br (d≠[]),d,())=aN (hm (neg,d,())):=by have e:=fd a;have f:d=eW (ag d).toNat:=alR a b;have g:d=[]↔ag d=0:=⟨λc=>by rw[c];rfl,am5 a b⟩;unfold aN hm;grind
def Gy:X->X->X
 |0,_=>0
 |f+1,a=>if a %2=0 then Gy f (a/2)+1 else 0
def cV (a:X):X:=if a=0 then 0 else Gy (aO a) a
def af1:∀{a n:X},0<n->n<2^a->∃b,n=(2*b+1)*2^Gy a n:=by
 intro a
 induction a with
 |zero=>omega
 |succ a e=>
  intro n f g;unfold Gy;split
  ·rename_i c;obtain⟨b,d⟩:=e (n:=n/2) aa aa;refine⟨b,?_⟩;rw[uG,<-uF,<-d];omega
  rename_i c;exact⟨n/2,aa⟩
theorem uh {n:X} (b:0<n):∃a,n=(2*a+1)*2^cV n:=by unfold cV;rw[au aa];exact af1 b (fW.1 (bd _))
theorem Ql:∀{s t a b:X},(2*a+1)*2^s=(2*b+1)*2^t->s=t/\a=b
 |0,0,a,b,c=>by omega
 |0,t+1,a,b,c=>by grind
 |s+1,0,a,b,c=>by grind
 |s+1,t+1,a,b,c=>by rw[uG,<-uF,uG,<-uF] at c;obtain⟨d,e⟩:=Ql (s:=s) (t:=t) (a:=a) (b:=b) aa;omega
theorem yV {a:X} (b:c=(2*a+1)*2^j):cV c=j:=by have e:=j8 j;have d:0<c:=(by grind);grind [Ql,uh]
theorem Gz (e:0<c) (b:X):cV (c*2^b)=cV c+b:=by obtain⟨d,f⟩:=uh e;refine yV (a:=d) ?_;grind
theorem af2 {n:X} (a:0<n):n/2^cV n %2=1:=by grind [an9,alQ,uh]
theorem wz {n:X} (a:0<n):cV n<aO n:=by obtain⟨b,c⟩:=uh a;rw[uQ];grind
theorem tB {n k:X} (d:0<n):k<=cV n↔n %2^k=0:=by
 obtain⟨c,f⟩:=uh d;constructor
 ·intro i;obtain⟨a,b⟩:∃a,cV n=a+k:=⟨cV n-k,aa⟩;rw[b,k2,<-uF] at f;simp_all
 intro j;rcases cT (cV n) k with e|e
 ·exfalso;obtain⟨a,b⟩:∃a,k=cV n+(a+1):=⟨k-cV n-1,aa⟩;have g:n=n/2^k*2^k:=(by grind [Nat.mul_comm,amf]);have l:=j8 (cV n);have h:(2*c+1)*2^cV n=(2*(n/2^k*2^a))*2^cV n:=by
   grind
  grind [Nat.eq_of_mul_eq_mul_right]
 omega
def pM (b a:Z):Z:=b*2^a.toNat/2^(-a).toNat
def g7 (a b:Z):ez:=
 if a=0 then Y 0
 else if b+cV a.natAbs< -65536\/65536<b+aO a.natAbs then bo
 else Y (pM a (b+65536))
def aB:ez->gB
 |none=>(bq,(bp,[],()),0,())
 |some a=>if a=0 then(bp,(bp,[],()),0,()) else(bp,aN (a/2^cV a.natAbs),(cV a.natAbs:Z)-65536,())
def gb (a:Z):Prop:=aO a.natAbs<=131072
instance(a:Z):akI (gb a):=inferInstanceAs (akI (_<=_))
def oD (a:Z):ez:=if gb a then Y a else bo
def cW (b:ez):Prop:=∀a,b=Y a->gb a
theorem kz (b:Z) (a:X):(b*2^a).natAbs=b.natAbs*2^a:=by rw[o4,Int.natAbs_pow];rfl
theorem EC (c:b.natAbs %2^a=0):b/2^a*2^a=b:=by grind [Int.ediv_mul_cancel,Int.ofNat_dvd_left,Nat.dvd_of_mod_eq_zero]
theorem Bi (c:b.natAbs %2^a=0):(b/2^a).natAbs=b.natAbs/2^a:=by grind [kz,an9,alQ,EC]
theorem ny (b:Z) (a:X):pM b a=b*2^a:=by grind [akE,pM]
theorem yO (b:Z) (a:X):pM b (-(a:Z))=b/2^a:=by simp_all [Int.neg_neg,fU,pM]
def cO (a:Z):Z:=a/2^cV a.natAbs
def fM (a:Z):Z:=(cV a.natAbs:Z)-65536
theorem qM (a:Z):cO a*2^cV a.natAbs=a:=by
 rcases rk a.natAbs with b|b
 ·obtain rfl:a=0:=aa;rfl
 exact EC ((tB b).1 (bd _))
def Qi (a:b≠0):(cO b).natAbs=b.natAbs/2^cV b.natAbs:=Bi ((tB aa).1 (bd _))
theorem lj (c:b≠0):cO b≠0:=λa=>by grind [qM]
def Qk (c:b≠0):cV (cO b).natAbs=0:=by rw[Qi c];have:=af2 (n:=b.natAbs) aa;exact yV (a:=b.natAbs/2^cV b.natAbs/2) aa
theorem aac (a:b≠0):aO (cO b).natAbs=aO b.natAbs-cV b.natAbs:=by rw[Qi a,CJ]
theorem FA {v:Z}:cO v<0↔v<0:=by
 have c:=qM v;have b:(0:Z)<2^cV v.natAbs:=lz ab;constructor
 ·intro a;have:=Int.mul_neg_of_neg_of_pos a b;omega
 grind [ak1,alS,akj]
theorem N4 (a:b≠0):aB (Y b)=(bp,aN (cO b),fM b,()):=by show(if b=0 then _ else _)=_;rw[au a];rfl
theorem Bf {v:Z} (i:-65536<=b) (c:v=e*2^(b+65536).toNat):g7 e b=oD v:=by
 obtain⟨d,g⟩:∃d:X,b+65536=d:=⟨(b+65536).toNat,aa⟩;rw[g,fU] at c;unfold g7 oD;by_cases f:e=0
 ·subst f;simp only[om] at c;subst c;rw[aw bn,aw (show gb 0 from(by decide:aO 0<=131072))]
 rw[au f];have h:aO v.natAbs=aO e.natAbs+d:=(by grind [kz,sV]);by_cases a:gb v
 ·rw[aw a];unfold gb at a;rw[au aa,g,ny,c]
 rw[au a];unfold gb at a;grind
theorem ZC (a:gb b):g7 (cO b) (fM b)=Y b:=by
 by_cases c:b=0
 ·subst c;rfl
 rw[Bf (v:=b) (by grind [fM]) (by
  grind [qM,cV,fM])]
 exact aw a
theorem JL (f a:Z):cW (g7 f a):=by
 intro i b;unfold g7 at b;split at b
 ·cases b;show aO 0<=_;decide
 split at b
 ·cases b
 rename_i g h;cases b;unfold gb;rcases ao3 0 (a+65536) with e|e
 ·obtain⟨c,d⟩:∃c:X,a+65536=c:=⟨(a+65536).toNat,aa⟩;grind [ny,kz,sV]
 obtain⟨c,d⟩:∃c:X,a+65536=-(c:Z):=⟨(-(a+65536)).toNat,aa⟩;rw[d,yO,Bi ((tB aa).1 aa),CJ];omega
theorem Na (a:Z):cW (oD a):=by intro c b;grind [oD]
def FZ (a b c:X) (f:bA) (d e:Z):Z:=n3 f (b*2^a/c) (d-a) (br (b*2^a %c≠0)) e
def RH (h:0<a) (e:0<c) (i:58+aO c<=aO a+j):58<=aO (a*2^j/c):=by
 rcases cT 57 (aO (a*2^j/c)) with b|b
 ·exact b
 exfalso;have d:a*2^j/c<2^57:=fW.1 b;rw[amU e] at d;have f:=(xh e).2;have g:a*2^j<2^57*2^aO c:=jh d (am6 _ (Nat.le_of_lt f));rw[<-k2,<-fW,sV h] at g;omega
def Sb (a b:X) (c d:Z):Z:=n3 bp (Jd (b*2^a)) ((c-a)/2) (br (Jd (b*2^a)*Jd (b*2^a)≠b*2^a)) d
def yE (a b:Z):Z:=if a=0 then 0 else n3 (br (a<0)) (cO a).natAbs (fM a) bp b
def r7 (a b:X):X:=59+aO b-aO a
def yz (a b c:Z):Z:=FZ (r7 (cO a).natAbs (cO b).natAbs) (cO a).natAbs (cO b).natAbs (br (a<0)!=br (b<0)) (fM a-fM b) c
def Sa (a:X) (b:Z):X:=if(b-((118-aO a:X):Z)) %2=0 then 118-aO a else 118-aO a+1
def KQ (a b:Z):Z:=Sb (Sa (cO a).natAbs (fM a)) (cO a).natAbs (fM a) b
theorem eR {b:bm m} (c:a<b.length):ar b (a:Z)=Y b[a]:=gg (bi c)
theorem B1 (b:a<9223372036854775808):ax (a:Z)=(a:Z):=cu aa aa
theorem bh {x:Z} (a:-9223372036854775808<=x) (b:x<=9223372036854775807):ax x=x:=cu a b
theorem bc (b:a<9223372036854775807):aM (a:Z)=((a+1:X):Z):=by grind [cu]
theorem fE {x:Z} (a:0<=x) (b:x<18446744073709551616):aK x=x:=B3 a b
theorem lq {x:Z} (a:0<=x) (b:x<4294967296):eC x=x:=LB a b
theorem pR (a:Z):eC a=a %4294967296:=LA a
theorem sh (a:Z):aK a=a %18446744073709551616:=B2 a
theorem rW (a:0<=b) (c:b<18446744073709551616):eC (e0 bD b 4294967295)=b %4294967296:=by rw[and_low32 a c,lq aa aa]
theorem a7 (a:bm m):al a=(a.length:Z):=rfl
theorem Gl {b:bm m} (e:a<=b.length):((Y (0:X)).bind λc=>(g8 (a:Z)).bind λd=>(hZ c d b.length).map λ_=>(c,d))=Y (0,a):=by simp_all [aE,vW,vI,eU]
theorem oY (n:aR d) (o:d.length<=100000000):iP (d,())=Y (iG d,()):=by
 unfold iP;refine bO.1 ?_;refine ae.aJ (P:=λk=>∃a:X,k.1=(a:Z)/\a<=d.length/\(∀b,a<=b->(i:b<d.length)->d[b]=0)/\e9 (d.take a)) ?_ ?_
 ·refine akn (λf=>∃a:X,f.1=(a:Z)/\a<=d.length/\(∀b,a<=b->(i:b<d.length)->d[b]=0)) (λf=>f.1.toNat) ⟨d.length,bn,bd _,λb c e=>by omega⟩ ?_;rintro⟨_,_⟩ ⟨a,rfl,c,e⟩;rcases a with _|a
  ·refine bu.2 ⟨0,bn,eU _,e,λl j=>by grind⟩
  have ao:ax (((a+1:X):Z)-1)=(a:Z):=(by grind [bh]);have h:br (((a+1:X):Z)>0)=bq:=aF aa;simp only[ao,h,akB,bG,eR (show a<d.length from c),aE];by_cases g:d[a]=0
  ·rw[fY,aF g];grind [cn,bu]
  rw[fY,aA g];refine bu.2 ⟨a+1,bn,c,e,λl j=>?_⟩;grind
 rintro⟨_,_⟩ ⟨a,rfl,c,e,m⟩;refine ae.of_eq (ai (Gl c) rfl) ?_;grind [Tl]
theorem zG (b:d.length<=100000000):ve (d,())=Y (d,()):=by unfold ve;have a:((cI (([]:aj6).length+d.length)).bind λ_=>Y (([]++d:aj6),()))=Y (d,()):=(by grind [eS]);show r1 d.length (Y ([],())) ((cI (([]:aj6).length+d.length)).bind λ_=>Y (([]++d:aj6),()))=_;unfold r1;grind
theorem tG:(al d==0)=br (d=[]):=by simp_all [List.length_eq_zero_iff,fY,aj8]
theorem xe (c:aR d) (e:d.length<=100000000):md (h,d,())=Y (aN (hm (h,d,())),()):=by unfold md;refine ai (oY c e) ?_;have a:=N2 (neg:=h) (Lm d) (Tk d);have b:hm (h,iG d,())=hm (h,d,()):=(by grind [Ln,hm]);rw[<-b,<-a];simp only[tG,c3];grind
def WR (c:b.natAbs<2^(32*a)):(aN b).2.1.length<=a:=by refine rL ?_;unfold a2;have d:(2^(32*a):X)=4294967296^a:=(by rw[aoa]);rw[d] at c;have:((4294967296^a:X):Z)=4294967296^a:=ac;omega
def Fit (a:Z):Prop:=(aN a).2.1.length<=31250
def WQ (a:X) (c:aO b.natAbs<=32*a):(aN b).2.1.length<=a:=WR (fW.1 c)
def jY (a:aO b.natAbs<=1000000):Fit b:=WQ 31250 aa
def Z5 {b:oc} (c:aR b.2.1) (a:b.2.1.length<=100000000):Df (b,())=Y (aN (hm b),()):=by obtain⟨e,d,_⟩:=b;unfold Df;exact ai (zG a) (ai (xe c a) rfl)
theorem GC (a:bA) (b:aj6):hm (!a,b,())=-hm (a,b,()):=by unfold hm;cases a<;>simp
theorem Ty (b:aR d) (a:bA):hm (bp,d,())=(hm (a,d,())).natAbs:=by have:=fd b;unfold hm;cases a<;>simp<;>omega
def Qc (e:Fit b):s5 (aN b,())=Y (aN (-b),()):=by unfold s5;have a:(aN b).2.1.length<=100000000:=c4 e ab;refine ai (zG a) (ai (xe (mK b) a) ?_);have c:=GC (aN b).1 (aN b).2.1;have d:=oa b;rw[c];show Y (aN (-hm (aN b)),())=_;rw[d]
def Cw (d:Fit b):u5 (aN b,())=Y (aN b.natAbs,()):=by unfold u5;have a:(aN b).2.1.length<=100000000:=c4 d ab;refine ai (zG a) (ai (xe (mK b) a) ?_);rw[Ty (mK b) (aN b).1];have c:=oa b;show Y (aN ((hm (aN b)).natAbs:Z),())=_;rw[c]
def Ti (c:Fit b):iP ((aN b).2.1,())=Y ((aN b).2.1,()):=by rw[oY (mK b) (c4 c ab)];have a:=alR (mK b) (EI b);show Y (eW (ag (aN b).2.1).toNat,())=_;rw[<-a]
def fv (a:Z):Z:=if a=0 then 0 else if a<0 then-1 else 1
def ue {z:Z} (a:Fit z):qs (aN z,())=Y (fv z,()):=by
 unfold qs;refine ai (Ti a) ?_;simp only[tG,c3,vw];unfold fv;split
 ·rfl
 show(bif br (z<0) then _ else _)=_;rw[c3];split<;>rfl
theorem ae.steps {h:m->bv (m⊕t)} {g:t->Prop} (f:X) (d:X->m->Prop) {l:m} (o:d 0 l) (q:∀b a,b<f->d b a->ae (h a) (λ|.inl s=>d (b+1) s|.inr c=>g c)) (p:∀a,d f a->ae (h a) (λ|.inl _=>b4|.inr c=>g c)):ae (jy.loop h l) g:=by
 have r:∀e b a,b+e=f->d b a->∃c,ky h (e+1) a=Y c/\g c:=by
  intro e
  induction e with
  |zero=>
   intro b a n k;obtain rfl:b=f:=n;obtain⟨u,i,j⟩:=p a k;grind [ky]
  |succ e v=>
   intro b a n k;obtain⟨u,i,j⟩:=q b a aa k;grind [ky]
 obtain⟨c,i,j⟩:=r f 0 l aa o;exact⟨c,A8.2 ⟨_,i⟩,j⟩
theorem yY (b:aj6) (a:X):ag (b.take (a+1))=ag (b.take a)+a2 a*b.getD a 0:=by grind [cl,alM,iH,bX,cn]
theorem aR.getD {a:aj6} (d:aR a) (c:X):0<=a.getD c 0/\a.getD c 0<4294967296:=by
 rcases cT c a.length with b|b
 ·rw[k0,bi b];exact d.get b
 grind
theorem j1 (b:a<d.length):d.getD a 0=d[a]:=by grind
theorem pu (b:d.length<=a):d.getD a 0=0:=by grind
theorem Rs (r:aR d) (s:aR f) (y:d.length<=10000000) (z:f.length<=10000000):xy (d,f,())=Y (eW (ag d+ag f).toNat,()):=by
 unfold xy;refine bO.1 ?_;refine ae.aJ (P:=λh=>∃i p,h=(i,p,())/\aR i/\aR p/\i.length<=10000000/\p.length<=i.length/\ag i+ag p=ag d+ag f) ?_ ?_
 ·simp only[c3];refine ae.ite (λj=>bu.2 ⟨f,d,bn,s,r,z,?_,am7 _ _⟩) λj=>bu.2 ⟨d,f,bn,r,s,y,?_,bn⟩
  ·grind
  grind
 rintro _ ⟨c,m,rfl,B,C,I,F,w⟩;rw[<-w];clear w r s y z;dsimp only;have A:aM (al c)=((c.length+1:X):Z):=bc aa;have ao:fR 0 ((c.length+1:X):Z)=Y 0:=(by unfold fR;rw[b8 ⟨aa,aa,by have:hJ=4294967296:=rfl;omega⟩];rfl);rw[A,ao];refine ae.aJ (P:=λh=>∃b a,h=(b,a,())/\a.length=c.length/\aR a/\0<=b/\b<=1/\ag a+a2 c.length*b=ag c+ag m) ?_ ?_
 ·refine ae.steps c.length (λe D=>∃b a,D=(b,(e:Z),a,())/\a.length=e/\aR a/\0<=b/\b<=1/\ag a+a2 e*b=ag (c.take e)+ag (m.take e)) ⟨0,[],bn,bn,akJ,aa,aa,by simp[ag]⟩ ?_ ?_
  ·rintro e _ t ⟨b,a,rfl,n,k,l,q,v⟩;have G:=B.get t;have H:=C.getD e;have o:∃g,g=c[e]+b+m.getD e 0/\0<=g/\g<18446744073709551616/\g/4294967296<=1:=⟨_,bn,aa,aa,aa⟩;obtain⟨g,o,J,K,E⟩:=o;have u:br ((e:Z)<al c)=bq:=aF (by grind);simp only[u,bG,eR t,aE];refine ae.aJ (P:=λh=>h=(g/4294967296,a++[g %4294967296],())) ?_ ?_
   ·refine ae.aJ (P:=λh=>h=(g,a,())) ?_ ?_
    ·simp only[c3];refine ae.ite (λj=>?_) λj=>?_
     ·grind [fE,bu,j1,eR,a7]
     have j:m.length<=e:=(by grind);rw[pu j] at o;refine bu.2 ?_;rw[fE (x:=c[e]) aa aa,fE (x:=c[e]+b) aa aa,o,amq]
    grind [eS,rW,nz,bu]
   rintro _ rfl;dsimp only;refine bu.2 ⟨g/4294967296,a++[g %4294967296],by rw[bc aa],by grind,k.snoc aa aa,aa,E,?_⟩;rw[q4,n,h3,iH t,yY];grind
  rintro _ ⟨b,a,rfl,n,k,l,q,v⟩;have u:br ((c.length:Z)<al c)=bp:=aA (by grind);simp only[u,bP];refine bu.2 ⟨b,a,bn,n,k,l,q,?_⟩;simp_all [fN,bd]
 rintro _ ⟨b,a,rfl,n,k,l,q,v⟩;dsimp only;rw[eS (by grind),lq l aa];refine ae.of_eq (ai bn (ai (oY (k.snoc l aa) (by grind)) rfl)) ?_;grind [q4,iG]
def i6 (b:aj6) (c:X):Prop:=∀a,c<=a->(d:a<b.length)->b[a]=0
def i6.lT (b a:X):i6 (bI b (0:Z)) a:=λd _ c=>by simp
def i6.set {b:aj6} {a:X} (c:i6 b a) (e:Z):i6 (b.set a e) (a+1):=λd f g=>by rw[ze aa];exact c d aa _
def i6.KY {j:X} (b:i6 d a) (f:Z) (g:j<a):i6 (d.set j f) a:=λe c h=>by rw[ze aa];exact b e c _
theorem PQ (q:aR d) (r:aR f) (C:d.length<=10000000) (y:f.length<=d.length) (z:ag f<=ag d):xx (d,f,())=Y (eW (ag d-ag f).toNat,()):=by
 unfold xx;refine bO.1 ?_;simp only[a7,h0 (aa:d.length<=4294967296),aE];refine ae.aJ (P:=λh=>∃a b,h=(a,())/\a.length=d.length/\aR a/\0<=b/\b<=1/\ag a-a2 d.length*b=ag d-ag f) ?_ ?_
 ·refine ae.steps d.length (λc t=>∃b a,t=(b,(c:Z),a,())/\a.length=d.length/\aR a/\i6 a c/\0<=b/\b<=1/\ag a-a2 c*b=ag (d.take c)-ag (f.take c)) ⟨0,_,bn,ac,akK _,i6.lT _ _,aa,aa,by simp[ag,pQ]⟩ ?_ ?_
  ·rintro c _ l ⟨b,a,rfl,i,g,n,j,k,o⟩;have A:=q.get l;have B:=r.getD c;obtain⟨e,x,u,v⟩:∃e,e=d[c]-b-f.getD c 0/\-4294967296<=e/\e<4294967296:=⟨_,bn,aa,aa⟩;have m:br ((c:Z)<(d.length:Z))=bq:=aF aa;simp only[a7,m,bG,eR l,aE];refine ae.aJ (P:=λh=>h=(-(e/4294967296),a.set c (e %4294967296),())) ?_ ?_
   ·refine ae.aJ (P:=λh=>h=(e %18446744073709551616,a,())) ?_ ?_
    ·simp_all [pu,bu,sh,eR,j1,ae.ite,c3]
    rintro _ rfl;dsimp only;rw[rW aa aa,lr aa,nz];refine bu.2 ?_;rw[sP 1 aa aa 1 ab ab];grind
   rintro _ rfl;dsimp only;refine bu.2 ⟨-(e/4294967296),a.set c (e %4294967296),by rw[bc aa],by grind,g.set aa aa,n.set _,aa,aa,?_⟩;rw[m1 aa,n c (cd _) aa,h3,iH l,yY];grind
  rintro _ ⟨b,a,rfl,i,g,n,j,k,o⟩;have m:br ((d.length:Z)<(d.length:Z))=bp:=aA aa;simp only[a7,m,bP];refine bu.2 ⟨a,b,bn,i,g,j,k,?_⟩;simp_all [fN,bd]
 rintro _ ⟨a,b,rfl,i,g,j,k,o⟩;dsimp only;have p:=hd g;have w:=fS d.length;rw[i] at p;have s:b=0:=(by grind);subst s;refine ae.of_eq (ai (oY g aa) rfl) ?_;grind [iG]
def gd (a b:Z):Z:=if a<b then-1 else if b<a then 1 else 0
theorem CQ (a b:Z):u1 (a,b,())=Y (gd a b,()):=by grind [u1,s2,gd]
theorem Wg (a b:Z):CU (a,b,())=Y (gd a b,()):=by grind [CU,CW,gd]
theorem GD (e:aR d) (g:aR f) (h:a<d.length) (i:a<f.length) (b:ag (d.drop (a+1))=ag (f.drop (a+1))) (l:d[a]<f[a]):ag d<ag f:=by rw[oZ d a aa,oZ f a aa,m0 h,m0 i,b];have c:=hd (e.take a);have j:=fd (g.take a);rw[gn,hN aa] at c;have k:a2 a*(d[a]+1)<=a2 a*f[a]:=jA aa (fm (fS a));grind
theorem q3 (a:aR f) (b:aR d) (c:e9 d) (e:f.length<d.length):ag f<ag d:=by have g:=hd a;have h:=e9.low b c (by grind);have i:=pH (m:=f.length) (n:=d.length-1) aa;omega
theorem HQ (g:aR d) (h:aR f) (q:e9 d) (r:e9 f) (u:d.length<=10000000) (v:f.length<=10000000):xw (d,f,())=Y (gd (ag d) (ag f),()):=by
 unfold xw;refine bO.1 ?_;simp only[fL,a7];by_cases m:d.length=f.length
 ·rw[aF (aa:(d.length:Z)=f.length)];simp only[ir,bP];refine ae.aJ (P:=λn=>match n with|.inl _=>ag d=ag f|.inr o=>o=(gd (ag d) (ag f),())) ?_ ?_
  ·refine ae.steps d.length (λc p=>p=(((d.length:X):Z)-1-c,())/\ag (d.drop (d.length-c))=ag (f.drop (d.length-c))) ⟨?_,?_⟩ ?_ ?_
   ·grind [bh]
   ·rw[pZ aa,pZ aa]
   ·rintro c _ s ⟨rfl,e⟩;obtain⟨a,t⟩:∃a,d.length=a+1+c:=⟨d.length-1-c,aa⟩;have ao:((d.length:X):Z)-1-(c:Z)=(a:Z):=aa;have j:a<d.length:=aa;have k:a<f.length:=aa;rw[(aa:d.length-c=a+1)] at e;simp only[ao,aF (aa:(a:Z)>=0),bG,eR j,eR k,aE,Wg];by_cases i:d[a]=f[a]
    ·simp only[aF i,ir,bP];grind [m0,bh,bu]
    simp only[aA i,od,bG];refine bu.2 ?_;show(gd d[a] f[a],())=_;have l:gd d[a] f[a]=gd (ag d) (ag f):=by
     unfold gd;rcases Int.lt_or_gt_of_ne i with b|b
     ·rw[aw b,aw (GD g h j k e b)]
     have:=GD h g k j e.symm b;omega
    rw[l]
   rintro _ ⟨rfl,e⟩;have ao:¬(((d.length:X):Z)-1-(d.length:Z)>=0):=aa;simp_all [bu,aA,bP]
  grind [bu,gd,ag]
 rw[aA (aa:¬(d.length:Z)=f.length)];simp only[od,bG,CQ,aE];refine bu.2 ?_;congr 1;unfold gd;rcases Nat.lt_or_gt_of_ne m with b|b
 ·rw[aw aa,aw (q3 g h r b)]
 have:=q3 h g q b;omega
def Bg {x y:Z} (b:0<=x/\x<4294967296) (a:0<=y/\y<4294967296):0<=x*y/\x*y<=18446744065119617025:=by refine⟨lx b.1 a.1,?_⟩;have c:x*y<=4294967295*y:=nD aa a.1;omega
theorem aeK (x:0<=b/\b<4294967296) (w:aR d) (K:a+d.length<c) (I:c<=100000000) (u:f.length=c) (v:aR f) (z:i6 f (a+d.length)) {p:i5->Prop} (J:∀h e,e.length=c->aR e->i6 e (a+d.length)->0<=h->h<4294967296->ag e+a2 (a+d.length)*h=ag f+a2 a*(b*ag d)->p (h,e,())):ae (loop (σ:=qh) (ρ:=i5) (λ(k,j,m,_)=>
 bif br (j<al d) then
 (ar d j).bind λr=>
 rd m (ax ((a:Z)+j)) λs=>
 wr m (ax ((a:Z)+j)) (eC (e0 bD (aK (aK (aK (aK b*aK r)+aK s)+k)) 4294967295)) λH=>
 (eN bD (aK (aK (aK (aK b*aK r)+aK s)+k)) 32).bind λG=>
 Y (.inl (G,aM j,H,())) else
 Y (.inr (k,m,()))) (0,0,f,())) p:=by
 refine ae.steps d.length (λg D=>∃h e,D=(h,(g:Z),e,())/\e.length=c/\aR e/\i6 e (a+d.length)/\0<=h/\h<4294967296/\ag e+a2 (a+g)*h=ag f+a2 a*(b*ag (d.take g))) ⟨0,f,bn,u,v,z,aa,aa,by simp[ag]⟩ ?_ ?_
 ·rintro g _ l ⟨h,e,rfl,ay,o,q,A,B,C⟩;have y:=w.get l;have M:=o.get (n:=a+g) aa;have L:=Bg x y;obtain⟨i,N,E,F⟩:∃i,i=b*d[g]+e[a+g]+h/\0<=i/\i<18446744073709551616:=⟨_,bn,aa,aa⟩;simp only[aF (show(g:Z)<al d by grind),bG,eR l,aE];have ao:ax ((a:Z)+(g:Z))=((a+g:X):Z):=(by grind [bh]);rw[ao,je aa];have t:aK (aK (aK (aK b*aK d[g])+aK e[a+g])+h)=i:=by
   grind [fE]
  rw[t,rW E F,lr aa,nz];refine bu.2 ⟨i/4294967296,e.set (a+g) (i %4294967296),by rw[bc aa],by grind,o.set aa aa,q.KY _ aa,aa,aa,?_⟩;rw[m1 aa,(aa:a+(g+1)=(a+g)+1),h3,iH l];grind [uq,alv]
 rintro _ ⟨h,e,rfl,ay,o,q,A,B,C⟩;simp_all [fN,bd,bu,aA,a7,bP,al]
theorem afT (v:aR f) (w:aR d) (z:f.length<=10000000) (A:d.length<=10000000):Dj (f,d,())=Y (eW (ag f*ag d).toNat,()):=by
 unfold Dj;refine bO.1 ?_;simp only[tG];refine ae.aJ (P:=λp=>match p with|.inl _=>f≠[]/\d≠[]|.inr h=>h=(eW (ag f*ag d).toNat,())) ?_ ?_
 ·by_cases l:f=[]
  ·simp only[aF l];refine bu.2 ?_;subst l;simp[ag];rfl
  simp only[aA l,akB,bG];by_cases r:d=[]
  ·simp only[aF r,bG];refine bu.2 ?_;subst r;simp[ag];rfl
  simp_all [aA,bP,bu]
 rintro(p|p) x
 rotate_left
 ·grind [bu]
 clear x;dsimp only;have u:ax (al f+al d)=((f.length+d.length:X):Z):=(by grind [bh,a7]);rw[u,h0 aa,bK];refine ae.aJ (P:=λh=>∃a,h=(a,())/\a.length=f.length+d.length/\aR a/\ag a=ag f*ag d) ?_ ?_
 ·refine ae.steps f.length (λb y=>∃a,y=((b:Z),a,())/\a.length=f.length+d.length/\aR a/\i6 a (b+d.length)/\ag a=ag (f.take b)*ag d) ⟨_,bn,ac,akK _,i6.lT _ _,by simp[ag,pQ]⟩ ?_ ?_
  ·rintro b _ m ⟨a,rfl,ay,g,q,t⟩;simp only[aF (show(b:Z)<al f by grind),bG,eR m,bK];refine ae.aJ (P:=λh=>∃e c,h=(e,c,())/\c.length=f.length+d.length/\aR c/\i6 c (b+d.length)/\0<=e/\e<4294967296/\ag c+a2 (b+d.length)*e=ag a+a2 b*(f[b]*ag d)) (aeK (v.get m) w aa aa ay g q λe c s n i j k o=>⟨e,c,bn,s,n,i,j,k,o⟩) ?_;rintro _ ⟨e,c,rfl,s,n,i,j,k,o⟩;have ao:ax ((b:Z)+al d)=((b+d.length:X):Z):=(by grind [bh,a7]);dsimp only;rw[ao,lq j k,lr aa];refine bu.2 ⟨c.set (b+d.length) e,by rw[bc aa],by grind,n.set j k,?_,?_⟩
   ·rw[(aa:b+1+d.length=b+d.length+1)];exact i.set _
   rw[m1 aa,i _ (bd _) aa,iH m,am8,o,t];grind
  rintro _ ⟨a,rfl,ay,g,q,t⟩;simp only[aA (show¬((f.length:Z)<al f) by grind),bP];refine bu.2 ⟨a,bn,ay,g,?_⟩;grind
 rintro _ ⟨a,rfl,ay,g,q⟩;refine ae.of_eq (ai (oY g (by grind)) rfl) ?_;grind [iG]
theorem Y3:∀a:X,a<256->q0 Fj (a:Z)=Y (aO a:Z):=by have b:(bJ 256).all (λa=>q0 Fj (a:Z)==Y (aO a:Z))=bq:=(by decide+kernel);grind
theorem KZ {x y:Z} (a:0<=y) (b:y<=32):eN .u32 x y=Y (x/2^y.toNat):=by unfold eN;rw[aw a,show cb.bits=32 from rfl,hN aa,ao0 _ (by grind)]
def SJ (a:0<=b) (c:b<=32):ig .u32 e b=Y ((e*2^b.toNat) %4294967296):=by unfold ig;rw[aw a,LA,show cb.bits=32 from rfl,hN aa]
def agA (a:0<=b) (c:b<256):an3.wrap b=b:=by unfold alN;refine(au (ac:¬(bp&&br (b %256>=(128:Z)))=bq)).trans ?_;show b %256=b;omega
def MU {n k:X} (a:2^k<=n):aO n=aO (n/2^k)+k:=by rw[CJ];have:=uQ.2 a;omega
theorem Jq {n:X} (g:n<4294967296):xB ((n:Z),())=Y ((aO n:Z),()):=by
 unfold xB;refine bO.1 ?_;refine ae.aJ (P:=λd=>∃a b:X,d=((a:Z),(b:Z),())/\a<65536/\aO n=aO a+b/\b<=16) ?_ ?_
 ·simp only[c3];refine ae.ite (λe=>?_) λe=>?_
  ·rw[KZ ab ab];refine bu.2 ⟨n/2^16,16,?_,aa,MU aa,aa⟩;simp
  exact bu.2 ⟨n,0,bn,aa,bn,aa⟩
 rintro _ ⟨a,b,rfl,e,h,i⟩;refine ae.aJ (P:=λd=>∃a b:X,d=((a:Z),(b:Z),())/\a<256/\aO n=aO a+b/\b<=24) ?_ ?_
 ·simp only[c3];refine ae.ite (λc=>?_) λc=>?_
  ·rw[KZ ab ab];refine bu.2 ⟨a/2^8,b+8,?_,aa,by have:=MU (n:=a) (k:=8) aa;omega,aa⟩;grind [cu]
  grind [bu]
 rintro _ ⟨f,o,rfl,c,j,l⟩;dsimp only;rw[agA aa aa,Y3 f c];refine bu.2 ?_;have m:aO f<=8:=fW.2 aa;grind [cu]
theorem Vz {l:aj6} {x:Z} (g:aR l) (p:0<x):aO (ag l+a2 l.length*x).toNat=32*l.length+aO x.toNat:=by
 obtain⟨b,rfl⟩:=gh (fm p);obtain⟨d,o⟩:=gh (fd g);have f:=hd g;rw[o] at f|-;have n:a2 l.length=((2^(32*l.length):X):Z):=(by simp_all [aoa,a2]);rw[n] at f|-;generalize 32*l.length=a at*;have h:0<b:=aa;have j:((d:Z)+((2^a:X):Z)*(b:Z)).toNat=d+2^a*b:=aa;show aO ((d:Z)+((2^a:X):Z)*(b:Z)).toNat=_;rw[j];obtain⟨e,i⟩:=xh h;have q:=qn h;obtain⟨c,m⟩:∃c,aO b=c+1:=⟨aO b-1,aa⟩;show _=a+aO b;rw[m] at e i|-;have r:d<2^a:=aa;refine MT (k:=a+c) ?_ ?_
 ·rw[k2];have:=am6 (2^a) e;grind
 rw[uG,k2] at*;have:=am6 (2^a) (aa:b+1<=2^c*2);grind
theorem Pm (c:aR d) (h:e9 d) (k:d.length<=10000000):z1 (d,())=Y ((aO (ag d).toNat:Z),()):=by
 unfold z1;simp only[tG,c3];split
 ·rename_i a;subst a;rfl
 rename_i a;have m:0<d.length:=uz.2 a;have ao:ax (al d-1)=((d.length-1:X):Z):=(by grind [bh,a7]);rw[ao,eR aa];have e:=c.get (n:=d.length-1) aa;have i:d[d.length-1]≠0:=h _ (by rw[ao4,bi aa]);have f:ag d=ag (d.take (d.length-1))+a2 (d.length-1)*d[d.length-1]:=(by grind [iH,cl]);have b:=Vz (l:=d.take (d.length-1)) (x:=d[d.length-1]) (c.take _) aa;rw[gn,hN aa,<-f] at b;rw[b];obtain⟨n,g⟩:=gh e.1;rw[g] at e|-;refine ai bn (ai (Jq (n:=n) aa) ?_);have j:aO n<=32:=fW.2 aa;grind [bh]
def xg (a:Fit b):s4 (aN b,())=Y ((aO b.natAbs:Z),()):=by unfold s4;refine ai (Ti a) (ai (Pm (mK b) (EI b) (c4 a ab)) ?_);rw[hW];rfl
theorem Zg (q:c=(2*j+1)*2^a) (m:c<2^32):c&&&(2^32-c)=2^a:=by
 have p:=j8 a;have n:0<c:=(by grind);obtain⟨e,g⟩:∃e,c=e+1:=⟨c-1,aa⟩;have l:e=2^a*(2*j)+(2^a-1):=(by grind);have r:c=2^a*(2*j+1)+0:=(by grind);refine ao5 λb=>?_;rw[ao6,g,Nat.testBit_two_pow_sub_succ aa,<-g];have ao:c.testBit b=if b<a then bp else(2*j+1).testBit (b-a):=by grind
 have i:e.testBit b=if b<a then(2^a-1).testBit b else(2*j).testBit (b-a):=by rw[l,Nat.testBit_two_pow_mul_add _ aa]
 rw[ao,i,anY];by_cases f:b<a
 ·grind
 rw[au f,au f];by_cases k:a=b
 ·subst k;have d:a<32:=by
   rcases cT a 32 with d|d
   ·exact d
   have:=sI (ab:1<=2) d;omega
  grind
 obtain⟨h,o⟩:∃h,b-a=h+1:=⟨b-a-1,aa⟩;grind
theorem VG:∀a:X,a<32->ar qo (2^a*125613361 %4294967296/2^(27:Z).toNat)=Y (a:Z):=by have b:(bJ 32).all (λa=>ar qo (2^a*125613361 %4294967296/2^(27:Z).toNat)==Y (a:Z))=bq:=(by decide+kernel);grind
theorem Tr (e:0<a) (c:a<4294967296) (b:Z):eC (e0 cb (a:Z) (eC (0-(a:Z)))*b)=2^cV a*b %4294967296:=by obtain⟨g,f⟩:=uh e;have ao:eC (0-(a:Z))=((2^32-a:X):Z):=(by grind [pR]);have d:((2^cV a:X):Z)=2^cV a:=ac;rw[ao,Mo c aa,Zg f c,pR,d]
theorem Ts {n:X} (b:0<n) (a:n<4294967296):xC ((n:Z),())=Y ((cV n:Z),()):=by have e:cV n<32:=jh (wz b) (fW.2 a);have d:=VG _ e;have c:=KZ (x:=eC (e0 cb (n:Z) (eC (0-(n:Z)))*125613361)) (y:=27) ab ab;rw[Tr b a 125613361] at c;unfold xC;show(bif (n:Z)==0 then Y (32,()) else(eN cb (eC (e0 cb (n:Z) (eC (0-(n:Z)))*125613361)) 27).bind λf=>(ar qo f).bind λg=>Y (ax g,()))=_;rw[aW (by grind),Tr b a 125613361,c];refine ai bn (ai d ?_);grind [bh]
theorem Tt {x:Z} (r:ag (d.take c)=0) (g:c<d.length) (h:aR d) (s:d[c]≠0):cV (ag d).toNat=32*c+cV (d[c]).toNat:=by
 have q:=h.get g;rw[oZ d c aa,r,m0 g];have p:=fd (h.drop (c+1));generalize ag (d.drop (c+1))=u at*;generalize d[c]=v at*;obtain⟨b,rfl⟩:=gh q.1;obtain⟨e,rfl⟩:=gh p;have i:0<b:=aa;obtain⟨j,m⟩:=uh i;have t:cV b<32:=jh (wz i) (fW.2 aa);have o:a2 c=((2^(32*c):X):Z):=(by unfold a2;rw[aoa];simp);have k:(0+a2 c*((b:Z)+4294967296*(e:Z))).toNat=(b+4294967296*e)*2^(32*c):=(by rw[o,alw,qb (b+4294967296*e)];have:((2^(32*c):X):Z)*((b:Z)+4294967296*(e:Z))=((2^(32*c)*(b+4294967296*e):X):Z):=(by rw[sv];simp);rw[this];rfl);show cV (0+a2 c*((b:Z)+4294967296*(e:Z))).toNat=32*c+cV b;rw[k,Gz aa,al9];congr 1;obtain⟨f,n⟩:∃f,32=cV b+(f+1):=⟨31-cV b,aa⟩;refine yV (a:=j+2^f*e) ?_;have l:(4294967296:X)=2^cV b*(2^f*2):=by
  have:(4294967296:X)=2^32:=rfl;rw[this]
  conv=>lhs;rw[n]
  rw[k2,uG]
 rw[l]
 conv=>lhs;lhs;rw[m]
 grind
def Tu {z:Z} (o:Fit z) (r:z≠0):zX (aN z,())=Y ((cV z.natAbs:Z),()):=by
 unfold zX;dsimp only;have i:=mK z;have u:=hW z;have s:(aN z).2.1.length<=31250:=o;generalize(aN z).2.1=b at*;have m:z.natAbs=(ag b).toNat:=aa;rw[m];refine bO.1 (ae.aJ (P:=λh=>match h with|.inl _=>b4|.inr p=>p=((cV (ag b).toNat:Z),())) ?_ ?_)
 ·refine ae.steps b.length (λa q=>q=((a:Z),())/\ag (b.take a)=0) ⟨bn,bn⟩ ?_ ?_
  ·rintro a _ f ⟨rfl,e⟩;have j:=i.get f;simp only[aF (show(a:Z)<al b by simp only[a7];omega),bG,eR f,aE,fL];by_cases c:b[a]=0
   ·simp only[aF c,ir,bP];refine bu.2 ⟨by rw[bc aa],?_⟩;rw[iH f,c,e];simp
   simp only[aA c,od,bG];have k:=Tt (x:=0) e f i c;rw[k];obtain⟨d,l⟩:=gh j.1;rw[l] at j c|-;have t:cV d<32:=jh (wz aa) (fW.2 aa);refine ae.of_eq (ai (Ts (n:=d) aa aa) rfl) ?_;show(ax (ax ((a:Z)*32)+(cV d:Z)),())=_;rw[bh (x:=(a:Z)*32) aa aa,bh aa aa];congr 1;show _=((32*a+cV d:X):Z);omega
  rintro _ ⟨rfl,e⟩;exfalso;rw[fN (bd _)] at e;omega
 rintro(h|h) g
 ·exact g.elim
 have g:h=_:=g;rw[g];exact bu.2 bn
theorem yv (a:X):((2^a:X):Z)=(2:Z)^a:=by simp
theorem j5 (a:X):(0:Z)<2^a:=lz ab
theorem wc (b:a<=31):(2:Z)^a<=2147483648:=by have c:=sI (ab:0<2) b;grind
def wb {p:X} (a:p<=32):(4294967296:Z)=2^p*2^(32-p):=by rw[<-ly,(aa:p+(32-p)=32)];rfl
theorem q7 (a:X):a2 a=2^(32*a):=by unfold a2;rw[Int.pow_mul];rfl
theorem ac8 {k:X} {x y:Z} (j:k<=32) (e:0<=x) (f:x<2^k) (g:0<=y) (o:y<4294967296) (i:y %2^k=0):gv .u32 x y=x+y/\x+y<4294967296:=by
 have c:=j5 k;have u:=wb j;have t:=j5 (32-k);have s:y=2^k*(y/2^k):=(by have:=lX y (2^k);omega);have r:y/2^k<2^(32-k):=by
  rcases ih (y/2^k) (2^(32-k)) with b|b
  ·exact b
  have:=jA b (fm c);omega
 have q:2^k*(y/2^k+1)<=2^k*2^(32-k):=jA aa (fm c);have p:(2:Z)^k*(y/2^k+1)=2^k*(y/2^k)+2^k:=(by grind);have n:x+y<4294967296:=aa;refine⟨?_,n⟩;obtain⟨d,rfl⟩:=gh e;obtain⟨a,rfl⟩:=gh g;have m:d<2^k:=(by have:((d:X):Z)<((2^k:X):Z):=(by simpa using f);omega);have l:a %2^k=0:=(by have:((a %2^k:X):Z)=0:=(by simpa using i);omega);rw[ac6 aa aa];have h:a=(a/2^k)*2^k:=(by have:=amf a (2^k);rw[l,qb] at this;omega);rw[h,Mr k m];simp
theorem Ls {n:X} (F:aR d) (am:d.length<=10000000) (V:n<=100000000):xz (d,(n:Z),())=Y (eW (ag d*2^n).toNat,()):=by
 unfold xz;simp only[tG,c3];split
 ·rename_i h;subst h;simp[ag];rfl
 refine bO.1 ?_;obtain⟨a,e,K,ad,I,J⟩:∃a e:X,n=32*a+e/\e<32/\kA bL (n:Z) 32=some (a:Z)/\jf (n:Z) 32=some (e:Z):=by
  refine⟨n/32,n %32,aa,aa,?_,?_⟩
  ·unfold kA;rw[aw ab,GO aa,cu aa aa];simp
  unfold jf;rw[aw ab,GP aa];simp
 have l:=j5 e;have E:=wb (p:=e) aa;have w:aM (ax ((a:Z)+al d))=((a+d.length+1:X):Z):=(by simp only[a7];rw[bh aa aa,(ac:(a:Z)+(d.length:Z)=((a+d.length:X):Z)),bc aa]);rw[I,J,aE,aE,w,h0 aa,aE];refine ae.aJ (P:=λq=>∃c,q=(c,())/\c.length=a+d.length+1/\aR c/\ag c=a2 a*(2^e*ag d)) ?_ ?_
 ·refine ae.steps d.length (λb M=>∃c,M=((b:Z),c,())/\c.length=a+d.length+1/\aR c/\i6 c (a+b+1)/\(∀h:a+b<c.length,c[a+b]<2^e)/\ag c=a2 a*(2^e*ag (d.take b))) ⟨_,bn,ac,akK _,i6.lT _ _,λh=>by simp;exact l,by simp[ag,pQ]⟩ ?_ ?_
  ·rintro b _ m ⟨c,rfl,ay,g,i,t,o⟩;have s:=F.get m;have G:=g.get (n:=a+b) aa;have H:=t aa;dsimp only;rw[b8 (show(b:Z)<al d by simp only[a7];omega),eR m,bK];have ao:ax ((a:Z)+(b:Z))=((a+b:X):Z):=(by rw[bh aa aa];simp);have U:d[b]*2^e<4294967296*2^e:=am9 s.2 l;have T:(2:Z)^e<=2147483648:=wc aa;obtain⟨f,r,N,O⟩:∃f,f=d[b]*2^e/\0<=f/\f<18446744073709551616:=⟨_,bn,alS s.1 (akj l),aa⟩;have z:ig bD (aK d[b]) (aK (e:Z))=Y f:=by
    rw[fE (x:=d[b]) aa aa,fE (x:=(e:Z)) aa aa,n8 aa aa,fU,<-r];congr 1;omega
   have A:f %4294967296 %2^e=0:=(by rw[ao7 _ ⟨_,E⟩,r,ana]);have B:f/4294967296<2^e:=(by refine sr ab ?_;rw[jP];omega);obtain⟨C,R⟩:=ac8 (k:=e) (x:=c[a+b]) (y:=f %4294967296) aa G.1 H aa aa A;rw[z];simp only[aE];rw[ao,je aa,rW N O,C,lr aa,nz,aE,bc aa,lq aa aa,lr (by simp;omega)];refine bu.2 ⟨(c.set (a+b) (c[a+b]+f %4294967296)).set (a+b+1) (f/4294967296),by rw[bc aa],by simp[ay],(g.set aa aa).set aa aa,?_,?_,?_⟩
   ·have:=(i.KY (c[a+b]+f %4294967296) (j:=a+b) aa).set (f/4294967296);exact this
   ·intro h;show((c.set (a+b) (c[a+b]+f %4294967296)).set (a+b+1) (f/4294967296))[a+b+1]'h<2^e
    rw[ao8];exact B
   have Q:(c.set (a+b) (c[a+b]+f %4294967296))[a+b+1]'(by simp;omega)=0:=by rw[ze aa];exact i _ aa aa
   rw[m1 (by simp;omega),Q,m1 aa,o,iH m,h3,uq];have S:=lX f 4294967296;generalize f/4294967296=L at*;generalize f %4294967296=q at*;generalize(2:Z)^e=u at*;generalize d[b]=v at*;generalize c[a+b]=an at*;have D:q=v*u-4294967296*L:=aa;subst D;grind
  rintro _ ⟨c,rfl,ay,g,i,t,o⟩;dsimp only;rw[cc (show¬((d.length:Z)<al d) by simp only[a7];omega)];refine bu.2 ⟨c,bn,ay,g,?_⟩;rw[o,cl (cd _)]
 rintro _ ⟨c,rfl,ay,g,i⟩;refine ae.of_eq (ai (oY g (by show c.length<=_;omega)) rfl) ?_;show(iG c,())=_;rw[iG,i,q7,K,ly];congr 3;grind
def Wl (k:aR d) (o:d.length<=10000000):Ab (d,(),())=Y (br (ag d≠0),()):=by
 unfold Ab;refine bO.1 ?_;refine ae.aJ (P:=λi=>∃g,i=(g,())/\(0<=g↔ag d≠0)) ?_ ?_
 ·unfold Ib;dsimp only;refine ae.aJ (P:=λc=>match c with|.inl _=>ag d=0|.inr i=>0<=i.1/\ag d≠0) ?_ ?_
  ·refine ae.steps d.length (λa m=>m=((a:Z),())/\ag (d.take a)=0) ⟨bn,bn⟩ ?_ ?_
   ·rintro a _ e ⟨rfl,b⟩;have l:=k.get e;simp only[aF (show(a:Z)<al d by simp only[a7];omega),bG,eR e,aE,HY,fL];by_cases h:d[a]=0
    ·simp only[aF h,ir,bP];refine bu.2 ⟨by rw[bc aa],?_⟩;rw[iH e,h,b];simp
    simp only[aA h,od,bG];refine bu.2 ⟨by show(0:Z)<=(a:Z);omega,?_⟩;rw[oZ d a aa,b,m0 e];have j:=fd (k.drop (a+1));have n:0<a2 a*(d[a]+4294967296*ag (d.drop (a+1))):=pV (fS a) aa;omega
   rintro _ ⟨rfl,b⟩;simp only[aA (show¬((d.length:Z)<al d) by simp only[a7];omega),bP];refine bu.2 ?_;rw[fN (bd _)] at b;exact b
  rintro(c|c) f
  ·have f:ag d=0:=f;exact bu.2 ⟨_,bn,by rw[f];simp⟩
  obtain⟨b,j⟩:0<=c.1/\ag d≠0:=f;exact bu.2 ⟨c.1,bn,λ_=>j,λ_=>b⟩
 rintro _ ⟨g,rfl,l⟩;refine bu.2 ?_;show(br (g>=0),())=_;congr 1;rw[aj8];exact l
def Mq (a:X) (c:0<=b) (g:b<4294967296) (e:a<=32):e0 .u32 b (2^a-1)=b %2^a:=by obtain⟨i,rfl⟩:=gh c;have f:0<2^a:=j8 a;have d:(2:Z)^a-1=((2^a-1:X):Z):=(by rw[Int.natCast_sub f];simp);have h:2^a<=2^32:=sI ab e;rw[d,Mo aa aa,an7];simp
def PB {x b y:Z} {P P':Z} (e:0<b) (f:0<=x/\x<b) (h:0<P):(x+b*y) %(b*P)=0↔x=0/\y %P=0:=by
 constructor
 ·intro a;have g:x=0:=by
   have c:(x+b*y) %b=0:=(by have:=ao7 (x+b*y) (show b∣b*P from⟨P,bn⟩);rw[a] at this;simpa using this.symm);rw[za,ss f.1 f.2] at c;exact c
  subst g;rw[alw,ao9 _ _ e] at a;exact⟨bn,by rcases amr.1 a with d|d;omega;exact d⟩
 rintro⟨rfl,a⟩;rw[alw,ao9 _ _ e,a,alT]
theorem NP {n:X} (i:aR d) (bx:e9 d) (dg:d.length<=10000000) (cv:n<=1000000000):zZ (d,(n:Z),())=Y (eW (ag d/2^n).toNat,br (ag d %2^n≠0),()):=by
 unfold zZ;dsimp only;refine bO.1 ?_;obtain⟨a,e,a4,c1,av,a3⟩:∃a e:X,n=32*a+e/\e<32/\kA bL (n:Z) 32=some (a:Z)/\jf (n:Z) 32=some (e:Z):=by
  refine⟨n/32,n %32,aa,aa,?_,?_⟩
  ·unfold kA;rw[aw ab,GO aa,cu aa aa];simp
  unfold jf;rw[aw ab,GP aa];simp
 have B:=j5 e;have G:=wb (p:=e) aa;have ad:(2:Z)^n=a2 a*2^e:=(by rw[q7,a4,ly]);have K:=fd i;rw[av,a3,aE,aE,c3,ad];refine ae.ite (λk=>?_) λk=>?_
 ·have k:d.length<=a:=(by simp only[a7] at k;omega);have m:=hd i;have r:=pH k;have F:a2 a*1<=a2 a*2^e:=jA aa (fm (fS a));rw[pT K aa,ss K aa];refine bu.2 ?_;show(([]:aj6),br (al d>0),())=(eW 0,_,());rw[Iu];congr 2;rw[aj8];simp only[a7];constructor
  ·intro o C;have:=am5 i bx C;rw[this] at o;simp at o
  intro o;have:d≠[]:=λO=>(by rw[O] at o;exact o bn);have:=uz.2 this;omega
 have k:a<d.length:=(by simp only[a7] at k;omega);have w:=i.get k;obtain⟨f,u⟩:∃f,f=ag (d.drop a):=⟨_,bn⟩;have H:0<=f:=(by rw[u];exact fd (i.drop a));have J:ag d=ag (d.take a)+a2 a*f:=(by rw[u];exact oZ d a aa);have I:=fd (i.take a);have E:=hd (i.take a);rw[gn,hN aa] at E;have an:ag d/(a2 a*2^e)=f/2^e:=(by rw[<-uu (fm (fS a)),J,wP _ _ (by have:=fS a;omega),pT I E,alw]);refine ae.aJ (P:=λq=>q=(br (ag d %(a2 a*2^e)≠0),())) ?_ ?_
 ·rw[Gl aa,aE];have ao:aob 0 (List.take a d)=d.take a:=m5;show ae ((Ab (aob 0 (List.take a d),(),())).bind _) _;rw[ao,Wl (i.take a) (by simp;omega),aE];have D:(br (ag d %(a2 a*2^e)≠0))=(br (ag (d.take a)≠0)||br (d[a] %2^e≠0)):=by
   have m:=PB (x:=ag (d.take a)) (b:=a2 a) (y:=f) (P:=2^e) (P':=0) (fS a) ⟨I,E⟩ B;rw[<-J] at m;have r:f %2^e=d[a] %2^e:=(by rw[u,m0 k,G,jz,za]);rw[r] at m;by_cases A:ag (d.take a)=0<;>by_cases T:d[a] %2^e=0<;>simp[A,T,m]
  rw[D];dsimp only;by_cases A:ag (d.take a)=0
  ·simp only[aA (show¬(ag (d.take a)≠0) fromλk=>k A),akB,bG,eR k,aE];rw[fE (x:=(e:Z)) aa aa,SJ aa aa,aE,fU,alU];have ce:(2:Z)^e<=2147483648:=wc aa;rw[ss aa aa,lq aa aa,Mq e w.1 w.2 aa,fL];refine bu.2 ?_;simp
  simp only[aF (show ag (d.take a)≠0 from A)];exact bu.2 bn
 rintro _ rfl;dsimp only;obtain⟨l,cs⟩:∃l,d.length=a+l:=⟨d.length-a,aa⟩;have Q:ax (al d-(a:Z))=((l:X):Z):=(by simp only[a7];rw[bh aa aa];omega);rw[Q,h0 aa,bK];have ci:f<a2 l:=(by have:=hd (i.drop a);rw[anS,(aa:d.length-a=l),<-u] at this;exact this);refine ae.aJ (P:=λq=>∃g,q=(g,())/\g.length=l/\aR g/\ag g=f/2^e) ?_ ?_
 ·refine ae.steps l (λc bs=>∃g,bs=((c:Z),g,())/\g.length=l/\aR g/\ag (g.take c)+a2 c*(f/2^e/a2 c)=f/2^e) ⟨_,bn,ac,akK _,by simp[ag,y4]⟩ ?_ ?_
  ·rintro c _ co ⟨g,rfl,ay,z,s⟩;have w:=i.get (n:=a+c) aa;have bl:=i.getD (a+c+1);have D:br ((c:Z)<al (bI l (0:Z)))=bq:=aF (by simp only[a7,sC];omega);have ao:ax ((a:Z)+(c:Z))=((a+c:X):Z):=(by rw[bh aa aa];simp);have R:aM ((a+c:X):Z)=((a+c+1:X):Z):=bc aa;simp only[D,bG,ao,R,eR (aa:a+c<d.length),aE];obtain⟨j,v,L,ds⟩:∃j,j=d[a+c]+4294967296*d.getD (a+c+1) 0/\0<=j/\j<18446744073709551616:=⟨_,bn,aa,aa⟩;have am:f/a2 c=j+4294967296*(4294967296*ag (d.drop (a+c+2))):=by
    have m:d.drop a=(d.drop a).take c++d.drop (a+c):=by
     conv=>lhs;rw[<-jU c (d.drop a)]
     rw[q9]
    have r:f=ag ((d.drop a).take c)+a2 c*ag (d.drop (a+c)):=by
     rw[u]
     conv=>lhs;rw[m]
     rw[mu,gn,nF,hN aa]
    have F:=fd ((i.drop a).take c);have o:=hd ((i.drop a).take c);rw[gn,nF,hN aa] at o;have C:ag (d.drop (a+c))=d[a+c]+4294967296*ag (d.drop (a+c+1)):=m0 aa;have U:ag (d.drop (a+c+1))=d.getD (a+c+1) 0+4294967296*ag (d.drop (a+c+2)):=by
     rcases cT (a+c+1) d.length with h|h
     ·rw[j1 h];exact m0 h
     rw[pu h,pZ h,pZ aa];rfl
    rw[r,wP _ _ (by have:=fS c;omega),pT F o,C,U,v];grind
   have ap:f/2^e/a2 c %4294967296=j/2^e %4294967296:=(by have m:f/2^e/a2 c=f/a2 c/2^e:=(by rw[uu (fm B),uu (fm (fS c)),jP]);rw[m,am];have r:∀t:Z,j+4294967296*(4294967296*t)=j+2^e*(4294967296*(2^(32-e)*t)):=λt=>(by generalize(2:Z)^e=M at*;generalize(2:Z)^(32-e)=N at*;rw[show(4294967296:Z)*(4294967296*t)=(M*N)*(4294967296*t) by rw[<-G]];grind);rw[r,wP _ _ aa,za]);have a0:0<=j/2^e:=my L (fm B);have c2:j/2^e<=j:=uv _ L;refine ae.aJ (P:=λq=>q=(g.set c (j/2^e %4294967296),())) ?_ ?_
   ·refine ae.aJ (P:=λq=>q=(j,g,())) ?_ ?_
    ·simp only[c3];refine ae.ite (λh=>?_) λh=>?_
     ·have h:a+c+1<d.length:=(by simp only[a7] at h;omega);rw[eR h,aE,fE (x:=d[a+c+1]) (by have:=i.get h;omega) (by have:=i.get h;omega),n8 ab ab];rw[j1 h] at v bl;have S:d[a+c+1]*2^(32:Z).toNat %18446744073709551616=4294967296*d[a+c+1]:=by
       rw[show(2:Z)^(32:Z).toNat=4294967296 from rfl];omega
      rw[aE,S,fE aa aa,nr 32 w.1 w.2 aa aa aa aa];refine bu.2 ?_;rw[<-v]
     have h:d.length<=a+c+1:=(by simp only[a7] at h;omega);rw[pu h] at v;rw[fE aa aa];refine bu.2 ?_;rw[v];simp
    rintro _ rfl;dsimp only;rw[fE (x:=(e:Z)) aa aa,ud aa aa,bK,akE,rW a0 aa,lr aa];exact bu.2 bn
   rintro _ rfl;dsimp only;refine bu.2 ⟨g.set c (j/2^e %4294967296),by rw[bc aa],by simp[ay],z.set aa aa,?_⟩;rw[iH (by simp;omega)];simp only[ao8];rw[List.take_set_of_le aa,<-ap,h3,akF 4294967296 (a2 c),<-apa (akj (fS c))];have V:=alv (f/2^e/a2 c) 4294967296;generalize f/2^e/a2 c %4294967296=q at*;generalize f/2^e/a2 c/4294967296=dl at*;rw[<-V] at s;grind
  rintro _ ⟨g,rfl,ay,z,s⟩;simp only[aA (show¬((l:Z)<al (bI l (0:Z))) by simp only[a7,sC];omega),bP];refine bu.2 ⟨g,bn,ay,z,?_⟩;have m:0<=f/2^e:=my H (fm B);have r:f/2^e<=f:=uv _ H;rw[pT m aa,fN aa] at s;simpa using s
 rintro _ ⟨g,rfl,ay,z,s⟩;refine ae.of_eq (ai (oY z (by show g.length<=_;omega)) rfl) ?_;show(iG g,_,())=_;rw[iG,s,an]
section
theorem Br (a:cr) (b c:Z):gv a b c=gv a c b:=by grind [BitVec.or_comm,gv]
theorem Gx {x y:Z} (b:0<=x/\x<4294967296) (a:0<=y/\y<4294967296):ig .u64 x 32=Y (4294967296*x)/\gv .u64 (4294967296*x) (aK y)=4294967296*x+y:=by
 constructor
 ·grind [n8]
 rw[fE a.1 aa,Br,nr 32 a.1 a.2 aa aa aa aa,am7]
theorem F1 {x y:Z} (a:0<=x/\x<18446744073709551616) (c:0<y):kA .u64 x y=Y (x/y)/\jf x y=Y (x %y):=by
 constructor
 ·unfold kA;rw[aw aa,GO a.1];have b:x/y<=x:=uv _ a.1;grind [B3,ak2]
 unfold jf;grind
theorem afd (l:aR d) (J:d.length<=10000000) (g:0<b) (F:b<4294967296):Di (d,b,())=Y (eW (ag d/b).toNat,ag d %b,()):=by
 unfold Di;refine bO.1 ?_;simp only[a7,h0 (aa:d.length<=4294967296),aE];refine ae.aJ (P:=λt=>∃c,t=(ag d %b,c,())/\c.length=d.length/\aR c/\ag c=ag d/b) ?_ ?_
 ·refine ae.steps d.length (λf u=>∃c,u=(ag (d.drop (d.length-f)) %b,((d.length:X):Z)-1-f,c,())/\c.length=d.length/\aR c/\(∀a,a<d.length-f->(q:a<c.length)->c[a]=0)/\ag c=a2 (d.length-f)*(ag (d.drop (d.length-f))/b)) ⟨bI d.length 0,?_,ac,akK _,ac,?_⟩ ?_ ?_
  ·rw[bh aa aa,pZ aa];simp[ag]
  ·simp_all [pQ,pZ,ag]
  ·rintro f _ G ⟨c,rfl,ay,h,i,j⟩;obtain⟨a,q⟩:∃a,d.length=a+1+f:=⟨d.length-1-f,aa⟩;have ao:((d.length:X):Z)-1-(f:Z)=(a:Z):=aa;have p:a<d.length:=aa;rw[(aa:d.length-f=a+1)] at*;have s:=l.get p;obtain⟨e,k⟩:∃e,e=ag (d.drop (a+1)):=⟨_,bn⟩;have D:0<=e:=(by rw[k];exact fd (l.drop _));rw[<-k] at j|-;have r:0<=e %b:=oj _ aa;have H:e %b<b:=pU _ g;obtain⟨v,w⟩:=Gx (x:=e %b) (y:=d[a]) ⟨r,aa⟩ s;obtain⟨z,A⟩:=F1 (x:=4294967296*(e %b)+d[a]) (y:=b) ⟨aa,aa⟩ g;have n:(4294967296*(e %b)+d[a])/b<4294967296:=by
    refine sr g ?_;omega
   have o:0<=(4294967296*(e %b)+d[a])/b:=my aa aa;simp only[ao,aF (aa:(a:Z)>=0),bG,eR p,v,aE];rw[w,fE (x:=b) aa aa,z,aE,lq o n,lr aa,A,aE];have E:=lX e b;have I:ag (d.drop a)=d[a]+4294967296*e:=(by grind [m0]);have m:ag (d.drop a)=(4294967296*(e %b)+d[a])+b*(4294967296*(e/b)):=(by grind);refine bu.2 ⟨c.set a ((4294967296*(e %b)+d[a])/b),?_,by grind,h.set o n,?_,?_⟩
   ·rw[(aa:d.length-(f+1)=a),bh aa aa,m,za];grind
   ·grind
   rw[(aa:d.length-(f+1)=a),m,wP _ _ aa,m1 aa,i a aa aa,j,h3];grind
  rintro _ ⟨c,rfl,ay,h,i,j⟩;have ao:¬(((d.length:X):Z)-1-(d.length:Z)>=0):=aa;simp_all [y4,bu,alf,aA,bP]
 rintro _ ⟨c,rfl,ay,h,i⟩;have C:ag d %b<b:=pU _ g;have B:0<=ag d %b:=oj _ aa;refine ae.of_eq (ai (oY h (by grind)) rfl) ?_;show(iG c,eC (ag d %b),())=_;grind [lq,iG]
section
variable {α B:Type}
theorem rv {c b e:bm α} (f:a<b.length) (d:α->bv B):a1 (c++(b++e)) (c.length+a) d=d b[a]:=by simp_all [rh,sF,rf,bi,hC]
def BO {b c d:bm α} (f:a<c.length) (e:α):(b++(c++d)).set (b.length+a) e=b++(c.set a e++d):=by rw[apb _ _ aa,sF,List.set_append_left _ _ f]
end
theorem W5 {v1 fe d f a c g:Z} (r:0<e) (q:d=(v1*4294967296+fe)*e+u) (o:f=(a*4294967296+c)*e+g) (j:0<=u) (p:g<e) (h:0<=b) (k:(a-b*v1)*4294967296+c<b*fe):f<b*d:=by have i:a*4294967296+c+1<=b*(v1*4294967296+fe):=(by grind);have l:(a*4294967296+c+1)*e<=b*(v1*4294967296+fe)*e:=nD i aa;have m:0<=b*u:=lx h j;have n:b*d=b*(v1*4294967296+fe)*e+b*u:=(by grind);grind
theorem W6 {v1 fe a f c d g:Z} (t:0<e) (r:a=(v1*4294967296+fe)*e+u) (p:f=(c*4294967296+d)*e+g) (s:0<=u/\u<e) (q:0<=g) (h:0<=b/\b<4294967296) (v:1<=v1) (w:0<=fe) (j:b*fe<=(c-b*v1)*4294967296+d):b*a<f+a:=by have i:b*(v1*4294967296+fe)<=c*4294967296+d:=(by grind);have k:b*(v1*4294967296+fe)*e<=(c*4294967296+d)*e:=nD i aa;have l:b*u<=b*e:=jA aa h.1;have m:b*a=b*(v1*4294967296+fe)*e+b*u:=(by grind);have n:b*e<=4294967295*e:=nD aa aa;have o:4294967296*e<=(v1*4294967296+fe)*e:=nD aa aa;omega
end
theorem GF (b:d.length=a+2):ag d=(d[a+1]*4294967296+d[a])*a2 a+ag (d.take a):=by grind [iH,h3,cl]
theorem agk (b:d.length=a+3):ag d=((d[a+2]*4294967296+d[a+1])*4294967296+d[a])*a2 a+ag (d.take a):=by grind [h3,iH,cl]
structure y6 (v w:aj6) (n:X):Prop where
 hv:aR v
 hw:aR w
 GH:v.length=n+2
 wn:w.length=n+3
 Qd:n<=10000000
 top:2147483648<=v[n+1]
 lt:ag w<4294967296*ag v
theorem y6.TE {n:X} (a:y6 d f n):0<ag d:=by
 have b:=GF a.GH;have c:=fd (a.hv.take n);have e:=a.hv.get (n:=n) (by grind);have g:=a.top;have h:0<(d[n+1]'(by grind)*4294967296+d[n]'(by grind))*a2 n:=pV aa (fS n)
 omega
theorem W7 {j:aj6} {n:X} (h:y6 f d n) (r:b=(4294967296*d[n+2]'(by have:=h.wn;omega)+d[n+1]'(by have:=h.wn;omega))/f[n+1]'(by have:=h.GH;omega)) (ci:e=(4294967296*d[n+2]'(by grind)+d[n+1]'(by grind)) %f[n+1]'(by grind)):ae (loop (σ:=(ej×Z×Z×bf×bt)) (ρ:=(ej×Z×bf×bt)) (λ(l,o,B,t,_)=>
 bB (α:=(ej×bf×bt)⊕((ej×Z×Z×bf×bt)⊕(ej×Z×bf×bt))) (bif br (o>4294967295)==bp then(ar f (ax (al f-2))).bind λd1=>
 (ig bD B 32).bind λd2=>
 (ba (l.2-l.1) (ax (al f-2))).bind λdg=>
 (a1 t (l.1+dg) λam=>Y am).bind λd3=>
  bif br (aK (o*aK d1)>gv bD d2 (aK d3)) then
 Y (.inl (l,t,())) else
 Y (.inr (.inr (l,o,t,()))) else Y (.inl (l,t,()))) λa=>match a with
 |.inl (O,P,_)=>(
 (ar f (ax (al f-1))).bind λp=>
  bif br (aK (B+aK p)>4294967295) then
 Y (.inr (O,aK (o-1),P,())) else
 Y (.inl (O,aK (o-1),aK (B+aK p),P,())))
 |.inr i=>Y i) ((g.length,g.length+d.length),b,e,g++(d++j),())) (λi=>∃a,i=((g.length,g.length+d.length),a,g++(d++j),())/\0<=a/\a<4294967296/\ag d/ag f<=a/\a*ag f<ag d+ag f):=by
 have c1:=h.GH;have c2:=h.wn;have fn:=h.Qd;have bl:=h.TE;have f5:=h.hv.get (n:=n+1) aa;have s:=h.hv.get (n:=n) aa;have fz:=h.hw.get (n:=n+2) aa;have fT:=h.hw.get (n:=n+1) aa;have cv:=h.hw.get (n:=n) aa;have ft:=h.top;have K:=GF c1;have w:=agk c2;have E:=fd (h.hv.take n);have F:=hd (h.hv.take n);have R:=fd (h.hw.take n);have G:=hd (h.hw.take n);rw[gn,hN aa] at F G;have bx:=h.lt;have z:=fS n;have ao:ax (al f-1)=((n+1:X):Z):=(by grind [bh,a7]);have ad:ax (al f-2)=((n:X):Z):=(by grind [bh,a7]);have ap:ar f ((n+1:X):Z)=Y f[n+1]:=eR aa;have av:ar f ((n:X):Z)=Y f[n]:=eR aa;have a0:∀q:Z->ez,a1 (g++(d++j)) (g.length+n) q=q d[n]:=λq=>rv aa q;generalize f0:f[n+1]=v1 at*;generalize f1:f[n]=fe at*;generalize f2:d[n+2]=D at*;generalize f3:d[n+1]=d0 at*;generalize f4:d[n]=k at*;obtain⟨c,co⟩:∃c,c=4294967296*D+d0:=⟨_,bn⟩;rw[<-co] at r ci;have w:ag d=(c*4294967296+k)*a2 n+ag (d.take n):=(by grind);have eq:D<=v1:=by
  rcases ih v1 D with m|m
  ·exfalso;have S:(v1*4294967296+fe+1)*a2 n<=(v1*4294967296+4294967296)*a2 n:=nD aa aa;have H:((v1+1)*4294967296*4294967296)*a2 n<=(c*4294967296+k)*a2 n:=nD aa aa;grind
  omega
 have ek:0<=ag d/ag f:=my (fd h.hw) aa;have el:ag d/ag f<4294967296:=sr bl bx;have cs:0<=c:=aa;have em:=lX c v1;have fr:0<=c %v1:=oj _ aa;have fs:c %v1<v1:=pU _ aa;have fp:0<=c/v1:=my cs aa;have T:∀a,0<=a->(c-a*v1)*4294967296+k<a*fe->ag d/ag f<a:=λa r h=>(by have:=W5 z K w E G r h;simp_all [sr]);have an:∀a,0<=a->a<4294967296->a*fe<=(c-a*v1)*4294967296+k->a*ag f<ag d+ag f:=λa a3 a4 h=>W6 z K w ⟨E,F⟩ R ⟨a3,a4⟩ aa s.1 h;refine akn (λC=>∃a i,C=((g.length,g.length+d.length),a,i,g++(d++j),())/\0<=a/\a<=4294967297/\0<=i/\i<4294967296/\i=c-a*v1/\ag d/ag f<=a) (λC=>C.2.1.toNat) ⟨b,e,bn,aa,?_,aa,aa,?_,?_⟩ ?_
 ·rw[r];have:c<4294967298*v1:=aa;have:=sr aa this;omega
 ·grind
 ·rcases ih (c/v1) (ag d/ag f) with m|m
  ·exfalso;have S:(c/v1+1)*ag f<=ag d:=by
    have v:(c/v1+1)*ag f<=ag d/ag f*ag f:=nD aa aa;have U:=lX (ag d) (ag f);have I:=oj (ag d) (aa:ag f≠0);grind
   have H:(c+1)*4294967296<=(c/v1+1)*(v1*4294967296):=(by grind);have d4:(c+1)*4294967296*a2 n<=(c/v1+1)*(v1*4294967296)*a2 n:=nD H aa;have d5:0<=(c/v1+1)*(fe*a2 n+ag (f.take n)):=lx aa (by have:=lx s.1 (fm z);omega);have d6:(c/v1+1)*ag f=(c/v1+1)*(v1*4294967296)*a2 n+(c/v1+1)*(fe*a2 n+ag (f.take n)):=(by grind);have d7:(k+1)*a2 n<=4294967296*a2 n:=nD aa aa;grind
  omega
 rintro _ ⟨a,i,rfl,v,U,I,V,d8,d9⟩;have ce:∀a,(a-1)*v1=a*v1-v1:=λa=>(by grind);have J:ag d/ag f<a->ae ((ar f (ax (al f-1))).bind λp=>
  bif br (aK (i+aK p)>4294967295) then
 Y (.inr ((g.length,g.length+d.length),aK (a-1),g++(d++j),())) else
 Y (
  .inl ((g.length,g.length+d.length),aK (a-1),aK (i+aK p),g++(d++j),()))) (λ(Q:(ej×Z×Z×bf×bt)⊕(ej×Z×bf×bt))=>match Q with
  |.inl N=>(∃a i,N=((g.length,g.length+d.length),a,i,g++(d++j),())/\0<=a/\a<=4294967297/\0<=i/\i<4294967296/\i=c-a*v1/\ag d/ag f<=a)/\N.2.1.toNat<a.toNat
  |.inr i=>∃a,i=((g.length,g.length+d.length),a,g++(d++j),())/\0<=a/\a<4294967296/\ag d/ag f<=a/\a*ag f<ag d+ag f):=by
  intro ex;rw[ao,ap,aE,fE (x:=v1) aa aa,fE (x:=i+v1) aa aa,fE (x:=a-1) aa aa,c3];refine ae.ite (λm=>?_) λm=>?_
  ·refine bu.2 ⟨a-1,bn,aa,?_,aa,?_⟩
   ·grind
   have bs:a-1<4294967296:=(by grind);refine an (a-1) aa bs ?_;rw[ce];have f6:(a-1)*fe<=4294967295*fe:=nD aa s.1;omega
  refine bu.2 ⟨⟨a-1,i+v1,bn,aa,aa,aa,aa,?_,aa⟩,?_⟩
  ·grind
  show(a-1).toNat<a.toNat;omega
 by_cases L:a>4294967295
 ·simp only[aF L,show(bq==bp)=bp from rfl,bP,aE];refine(J aa).mono ?_;rintro(u|u) A
  ·exact A
  omega
 simp only[aA L,akB,bG,ad,av,aE];obtain⟨dl,ds⟩:=Gx (x:=i) (y:=k) ⟨I,V⟩ cv;have fl:=Bg (x:=a) (y:=fe) ⟨v,aa⟩ s;rw[dl,aE];simp only[sF,fc (aa:n<d.length),aE,a0,ds];rw[fE (x:=fe) aa aa,fE (x:=a*fe) aa aa];by_cases M:a*fe>4294967296*i+k
 ·simp only[aF M,bG,aE];refine(J (T a v aa)).mono ?_;rintro(u|u) A
  ·exact A
  omega
 simp only[aA M,bP,aE];grind [bu]
theorem afD {r:aj6} (L:aR d) (M:aR f) (a4:d.length<f.length) (ap:f.length<=100000000) (K:0<=b/\b<4294967296) (av:∀h e a,a.length=f.length->aR a->(∀(D:d.length<a.length) (m:d.length<f.length),a[d.length]=f[d.length])->0<=h->h<4294967296->0<=e->e<=1->ag a-a2 d.length*(h+e)=ag f-b*ag d->v ((g.length,g.length+f.length),h,e,g++(a++r),())):ae (loop (σ:=(ej×Z×Z×Z×bf×bt)) (ρ:=(ej×Z×Z×bf×bt)) (λ(j,p,s,o,q,_)=>
 bif br (o<al d) then
 (ar d o).bind λu=>
 (eN bD (aK (aK (b*aK u)+p)) 32).bind λU=>
 (ba (j.2-j.1) o).bind λP=>
 (a1 q (j.1+P) λC=>Y C).bind λA=>
 (ba (j.2-j.1) o).bind λz=>
 (a1 q (j.1+z) λ_=>Y (q.set (j.1+z) (eC (e0 bD (aK (aK (aK A-e0 bD (aK (aK (b*aK u)+p)) 4294967295)-s)) 4294967295)))).bind λad=>
 (eN bD (aK (aK (aK A-e0 bD (aK (aK (b*aK u)+p)) 4294967295)-s)) 32).bind λV=>
 Y (.inl (j,U,e0 bD V 1,aM o,ad,())) else
 Y (.inr (j,p,s,q,()))) ((g.length,g.length+f.length),0,0,0,g++(f++r),())) v:=by
 refine ae.steps d.length (λc T=>∃h e a,T=((g.length,g.length+f.length),h,e,(c:Z),g++(a++r),())/\a.length=f.length/\aR a/\(∀l,c<=l->(D:l<a.length)->(m:l<f.length)->a[l]=f[l])/\0<=h/\h<4294967296/\0<=e/\e<=1/\ag a-a2 c*(h+e)=ag f-b*ag (d.take c)) ⟨0,0,f,bn,bn,M,λ_ _ _ _=>rfl,aa,aa,aa,aa,by simp[ag]⟩ ?_ ?_
 ·rintro c _ t ⟨h,e,a,rfl,w,m,y,E,F,G,H,I⟩;have N:=L.get t;have bl:=m.get (n:=c) aa;have a3:=Bg K N;obtain⟨k,J,Q,R⟩:∃k,k=b*d[c]+h/\0<=k/\k<18446744073709551616:=⟨_,bn,aa,aa⟩;simp only[aF (show(c:Z)<al d by grind),bG,eR t,aE];have ao:aK (aK (b*aK d[c])+h)=k:=by
   rw[fE (x:=d[c]) aa aa,fE (x:=b*d[c]) aa aa,<-J,fE Q R]
  rw[ao];obtain⟨i,a0,am,an⟩:∃i,i=a[c]-k %4294967296-e/\-4294967296<=i/\i<4294967296:=⟨_,bn,aa,aa⟩;have B:aK (aK (aK a[c]-e0 bD k 4294967295)-e)=i %18446744073709551616:=(by simp_all [and_low32,sh]);have ay:i %18446744073709551616/4294967296 %2^1=-(i/4294967296):=aa;have S:i %18446744073709551616 %4294967296=i %4294967296:=aa;simp only[nz,sF,fc (aa:c<f.length),aE,rv (aa:c<a.length),B,rW (aa:0<=i %18446744073709551616) aa,BO (aa:c<a.length)];rw[sP 1 aa aa 1 ab ab,ay,S];refine bu.2 ⟨k/4294967296,-(i/4294967296),a.set c (i %4294967296),by rw[bc aa],by simp[w],m.set aa aa,?_,aa,aa,aa,aa,?_⟩
  ·intro l bs bx O;rw[ze aa];exact y l aa aa O
  rw[m1 aa,h3,iH t];grind
 rintro _ ⟨h,e,a,rfl,w,m,y,E,F,G,H,I⟩;simp_all [bu,bd,fN,aA,a7,bP,al]
theorem U0 {m:aj6} (C:aR f) (D:aR d) (L:f.length<d.length) (J:d.length<=100000000) (K:∀c a,a.length=d.length->aR a->(∀(v:f.length<a.length) (i:f.length<d.length),a[f.length]=d[f.length])->0<=c->c<=1->ag a+a2 f.length*c=ag d+ag f->x ((g.length,g.length+d.length),c,g++(a++m),())):ae (loop (σ:=(ej×Z×Z×bf×bt)) (ρ:=(ej×Z×bf×bt)) (λ(e,o,k,l,_)=>
 bif br (k<al f) then
 (ar f k).bind λr=>
 (ba (e.2-e.1) k).bind λE=>
 (a1 l (e.1+E) λu=>Y u).bind λs=>
 (ba (e.2-e.1) k).bind λq=>
 (a1 l (e.1+q) λ_=>Y (l.set (e.1+q) (eC (e0 bD (aK (aK (aK s+aK r)+o)) 4294967295)))).bind λI=>
 (eN bD (aK (aK (aK s+aK r)+o)) 32).bind λH=>
 Y (.inl (e,H,aM k,I,())) else
 Y (.inr (e,o,l,()))) ((g.length,g.length+d.length),0,0,g++(d++m),())) x:=by
 refine ae.steps f.length (λb F=>∃c a,F=((g.length,g.length+d.length),c,(b:Z),g++(a++m),())/\a.length=d.length/\aR a/\(∀j,b<=j->(v:j<a.length)->(i:j<d.length)->a[j]=d[j])/\0<=c/\c<=1/\ag a+a2 b*c=ag d+ag (f.take b)) ⟨0,d,bn,bn,D,λ_ _ _ _=>rfl,aa,aa,by simp[ag]⟩ ?_ ?_
 ·rintro b _ p ⟨c,a,rfl,w,i,y,z,A,B⟩;have N:=C.get p;have O:=i.get (n:=b) aa;obtain⟨h,M,G,P⟩:∃h,h=a[b]+f[b]+c/\0<=h/\h<8589934592:=⟨_,bn,aa,aa⟩;simp only[aF (show(b:Z)<al f by grind),bG,eR p,aE];have t:aK (aK (aK a[b]+aK f[b])+c)=h:=by
   grind [fE]
  simp only[nz,sF,fc (aa:b<d.length),aE,rv (aa:b<a.length),t,rW G (aa:h<18446744073709551616),BO (aa:b<a.length)];refine bu.2 ⟨h/4294967296,a.set b (h %4294967296),by rw[bc aa],by grind,i.set aa aa,?_,aa,aa,?_⟩
  ·grind
  grind [m1,h3,iH,alv]
 rintro _ ⟨c,a,rfl,w,i,y,z,A,B⟩;simp_all [bu,bd,fN,aA,a7,bP,al]
theorem Ww {a d g c h f:Z} (j:a+b*d=u+e) (i:u=c-g*e-b*(4294967296*-1)):a+b*(h+d-4294967296*f-h)=c-(g-1)*e+b*(4294967296*(1-f)):=by grind
theorem Wx {d c g a h f:Z} (i:e-b*(d+c)=u-g*a):e+b*(h-d-c-4294967296*f-h)=u-g*a-b*(4294967296*f):=by grind
theorem ae.bs {c:bv m} {b:m->bv t} {a:t->Prop} {y:m} (d:c=Y y) (e:ae (b y) a):ae (c.bind b) a:=by grind
theorem Wy {A C:aj6} {n:X} (i:y6 d f n):ae (zY ((A++(f++C),A.length,A.length+f.length),d,())) (λq=>∃b,q=(A++(b++C),ag f/ag d,())/\b.length=f.length/\aR b/\ag b=ag f %ag d):=by
 have H:=i.GH;have dl:=i.wn;have ex:=i.Qd;have k:=i.TE;have a4:=fd i.hw;have fn:=i.top;have Q:=i.hv.get (n:=n+1) aa;have O:=i.hw.get (n:=n+2) aa;have c2:=i.hw.get (n:=n+1) aa;have D:al d=((n+2:X):Z):=(by simp only[a7];omega);have ao:ax (((n+2:X):Z)-1)=((n+1:X):Z):=(by rw[bh aa aa];omega);have a0:ar d ((n+1:X):Z)=Y d[n+1]:=eR aa;obtain⟨ds,ap⟩:=Gx (x:=f[n+2]) (y:=f[n+1]) O c2;obtain⟨d0,d1⟩:=F1 (x:=4294967296*f[n+2]+f[n+1]) (y:=d[n+1]) ⟨aa,aa⟩ aa;unfold zY;have m:ba (A.length+f.length-A.length) (al d)=Y (n+2):=(by rw[sF,D];exact fc aa);have i1:ba (A.length+f.length-A.length) (ax (al d-1))=Y (n+1):=(by rw[sF,D,ao];exact fc aa);have R:ar d (ax (al d-1))=Y d[n+1]:=(by rw[D,ao];exact a0);refine ae.bs m (ae.bs (rv aa _) (ae.bs (by rw[fE O.1 aa];exact ds) (ae.bs i1 (ae.bs (rv aa _) (ae.bs R (ae.bs (by rw[ap,fE Q.1 aa];exact d0) (ae.bs R (ae.bs (by rw[ap,fE Q.1 aa];exact d1) ?_))))))));refine ae.aJ (W7 i bn rfl) ?_;rintro _ ⟨g,rfl,an,ay,ft,fz⟩;refine ae.aJ (P:=λq=>∃e j b,q=((A.length,A.length+f.length),e,j,A++(b++C),())/\b.length=f.length/\aR b/\0<=e/\e<4294967296/\0<=j/\j<=1/\(∀(i:d.length<b.length) (L:d.length<f.length),b[d.length]=f[d.length])/\ag b-a2 d.length*(e+j)=ag f-g*ag d) (afD i.hv i.hw aa aa ⟨an,ay⟩ λe j b p v T U V ad am w=>⟨e,j,b,bn,p,v,U,V,ad,am,T,w⟩) ?_;rintro _ ⟨e,j,b,rfl,p,v,U,V,ad,am,T,w⟩;have fp:=v.get (n:=n+2) aa;obtain⟨c,bl,d4,d5⟩:∃c,c=b[n+2]-e-j/\-4294967296<=c/\c<4294967296:=⟨_,bn,aa,aa⟩;have K:aK (aK (aK b[n+2]-e)-j)=c %18446744073709551616:=(by rw[sh,sh,sh,bl];omega);have d2:c %18446744073709551616/4294967296 %2^1=-(c/4294967296):=(by rw[show(2:Z)^1=2 from rfl];omega);have d3:c %18446744073709551616 %4294967296=c %4294967296:=aa;refine ae.bs m (ae.bs (rv aa _) (ae.bs m (ae.bs (y:=A++(b.set (n+2) (c %4294967296)++C)) ?_ (ae.bs (y:=c %18446744073709551616/4294967296) ?_ ?_))))
 ·rw[rv aa,K,rW aa aa,BO aa,d3]
 ·rw[K,nz]
 rw[sP 1 aa aa 1 ab ab,d2];have d9:=fS (n+2);have cv:ag (b.set (n+2) (c %4294967296))=ag b+a2 (n+2)*(c %4294967296-b[n+2]):=m1 aa _;have r:aR (b.set (n+2) (c %4294967296)):=v.set aa aa;rw[H] at w;have d6:=lX c 4294967296;have s:ag (b.set (n+2) (c %4294967296))=ag f-g*ag d-a2 (n+2)*(4294967296*(c/4294967296)):=(by rw[cv];generalize c/4294967296=z at*;generalize c %4294967296=B at*;have:B=b[n+2]-e-j-4294967296*z:=aa;rw[this];exact Wx w);have ci:=hd r;have ek:=fd r;rw[ams,p,dl,(aa:n+3=(n+2)+1),h3] at ci;have M:=lX (ag f) (ag d);have em:=oj (ag f) (aa:ag d≠0);have eq:=pU (ag f) k;rw[fY,c3];refine ae.ite (λav=>?_) λav=>?_
 ·have F:c/4294967296=0:=aa;rw[F] at s;have l:ag f/ag d=g:=by
   have E:g*ag d<=ag f:=aa;have L:g<=ag f/ag d:=(anb k).2 E;omega
  rw[aZ (by simp;omega),lq an ay];refine bu.2 ⟨_,by rw[l],by simp[p],r,?_⟩;rw[s];rw[l] at M;rw[jP g];omega
 have F:c/4294967296=-1:=aa;rw[F] at s;have l:ag f/ag d=g-1:=(by have E:ag f<g*ag d:=aa;have L:ag f/ag d<g:=sr k E;have d7:(g-1)*ag d<ag f+1:=(by have:(g-1)*ag d=g*ag d-ag d:=(by grind);omega);have d8:g-1<=ag f/ag d:=(anb k).2 aa;omega);have fl:=my a4 (fm k);have G:(b.set (n+2) (c %4294967296)).length=f.length:=(by simp[p]);rw[<-G];refine ae.aJ (P:=λq=>∃e a,q=((A.length,A.length+(b.set (n+2) (c %4294967296)).length),e,A++(a++C),())/\a.length=f.length/\aR a/\0<=e/\e<=1/\ag a+a2 d.length*e=ag (b.set (n+2) (c %4294967296))+ag d) (U0 i.hv r aa aa λe a I o fs J S u=>⟨e,a,bn,by rw[I,G],o,J,S,u⟩) ?_;rintro _ ⟨h,a,rfl,I,o,J,S,u⟩;rw[G];have fr:=o.get (n:=n+2) aa;refine ae.bs m (ae.bs (rv aa _) (ae.bs m (ae.bs (y:=A++(a.set (n+2) ((a[n+2]+h) %4294967296)++C)) ?_ ?_)))
 ·rw[rv aa,BO aa,lq J aa,pR]
 rw[aZ (by simp;omega),fE aa aa,lq aa aa];refine bu.2 ⟨a.set (n+2) ((a[n+2]+h) %4294967296),by rw[l],by simp[I],o.set aa aa,?_⟩;have c1:ag (a.set (n+2) ((a[n+2]+h) %4294967296))=ag a+a2 (n+2)*((a[n+2]+h) %4294967296-a[n+2]):=m1 aa _;have N:aR (a.set (n+2) ((a[n+2]+h) %4294967296)):=o.set aa aa;have co:=hd N;have el:=fd N;have ce:(a.set (n+2) ((a[n+2]+h) %4294967296)).length=(n+2)+1:=(by rw[ams];omega);rw[ce,h3] at co;have f2:=lX (a[n+2]+h) 4294967296;rw[H] at u;have t:ag (a.set (n+2) ((a[n+2]+h) %4294967296))=ag f-(g-1)*ag d+a2 (n+2)*(4294967296*(1-(a[n+2]+h)/4294967296)):=(by rw[c1];generalize(a[n+2]+h)/4294967296=z at*;generalize(a[n+2]+h) %4294967296=B at*;have:B=a[n+2]+h-4294967296*z:=aa;rw[this];exact Ww u s);rw[l] at M;have bx:ag f-(g-1)*ag d=ag f %ag d:=(by rw[jP (g-1)];omega);rw[bx] at t;have dg:=hd i.hv;rw[H] at dg;have cs:(a[n+2]+h)/4294967296=1:=by
  rcases ih 0 ((a[n+2]+h)/4294967296) with a3|a3
  ·omega
  exfalso;have:(a[n+2]+h)/4294967296=0:=aa;rw[this] at t;omega
 rw[cs] at t;rw[t];simp
theorem rK (a:0<=b):ag (eW b.toNat)=b:=by grind [th]
def Z3 {n:X} (f:aR d) (m:e9 d) (u:d.length=n+2):∃c:X,c<=31/\vc (d[n+1],())=Y ((c:Z),())/\ag d*2^c<a2 (n+2)/\2147483648*a2 (n+1)<=ag d*2^c:=by
 have l:=f.get (n:=n+1) aa;have q:d[n+1]≠0:=m _ (by rw[ao4,bi aa];congr 2;omega);have h:ag d=ag (d.take (n+1))+a2 (n+1)*d[n+1]:=(by rw[<-iH aa,fN aa]);have r:=fd (f.take (n+1));have j:=hd (f.take (n+1));rw[gn,hN aa] at j;generalize d[n+1]=v at*;obtain⟨a,rfl⟩:=gh l.1;have i:0<a:=aa;have t:aO a<=32:=fW.2 aa;have s:=qn i;obtain⟨g,o⟩:=xh i;obtain⟨b,k⟩:∃b,aO a=b+1:=⟨aO a-1,aa⟩;refine⟨32-aO a,aa,?_,?_,?_⟩
 ·unfold vc;refine ai (Jq (n:=a) aa) ?_;show Y (ax (32-(aO a:Z)),())=_;rw[bh aa aa];congr 2;omega
 ·have ao:ag d<a2 (n+1)*2^aO a:=by
   have:a2 (n+1)*((a:Z)+1)<=a2 (n+1)*2^aO a:=jA (by rw[<-yv];omega) (fm (fS _));have p:a2 (n+1)*((a:Z)+1)=a2 (n+1)*(a:Z)+a2 (n+1):=(by rw[apc,apd]);show ag d<_;rw[h];show ag (d.take (n+1))+a2 (n+1)*(a:Z)<_;omega
  have e:ag d*2^(32-aO a)<a2 (n+1)*2^aO a*2^(32-aO a):=su ao (j5 _);rw[jz,<-ly,(aa:aO a+(32-aO a)=32)] at e;rw[h3,jP];rw[jP];have:a2 (n+1)*2^32=4294967296*a2 (n+1):=(by rw[jP];rfl);omega
 have ao:a2 (n+1)*2^b<=ag d:=(by have:a2 (n+1)*2^b<=a2 (n+1)*(a:Z):=jA (by rw[<-yv];rw[k] at g;simp only[aoc] at g;omega) (fm (fS _));rw[h];show _<=ag (d.take (n+1))+a2 (n+1)*(a:Z);omega);have e:a2 (n+1)*2^b*2^(32-aO a)<=ag d*2^(32-aO a):=nD ao (fm (j5 _));rw[jz,<-ly,(aa:b+(32-aO a)=31)] at e;have:a2 (n+1)*2^31=2147483648*a2 (n+1):=(by rw[jP];rfl);omega
def WA (g:ag d=b) (e:aR d) (l:e9 d) (q:b<a2 (a+2)) (r:2147483648*a2 (a+1)<=b):∃c:d.length=a+2,2147483648<=d[a+1]:=by
 have t:=fS (a+1);have k:d.length=a+2:=by
  have o:=hd e;have h:d≠[]:=λi=>(by rw[i] at g;simp only[ag] at g;omega);have p:=e9.low e l h;rcases sG d.length (a+2) with c|c|c
  ·have:=pH (m:=d.length) (n:=a+1) aa;omega
  ·exact c
  have:=pH (m:=a+2) (n:=d.length-1) aa;omega
 refine⟨k,?_⟩;have s:ag d=ag (d.take (a+1))+a2 (a+1)*d[a+1]:=(by rw[<-iH aa,fN aa]);have j:=hd (e.take (a+1));rw[gn,hN aa] at j;rcases ih d[a+1] 2147483648 with f|f
 ·exfalso;have:a2 (a+1)*(d[a+1]+1)<=a2 (a+1)*2147483648:=jA aa aa;rw[apc,apd] at this;omega
 exact f
theorem NL {g c h f d a:Z} (k:(f+b*(h+a))+e*c=g) (i:h=e*u+d):(f+b*(d+a))+e*(c+b*(u-0))=g:=by subst i;have ao:b*(e*u+d+a)=b*(d+a)+b*(e*u):=(by grind);have j:e*(c+b*(u-0))=e*c+b*(e*u):=(by grind);omega
def Wz {n:X} (z:aR d) (J:ag d=b) (d5:b<a2 (n+2)) (L:d.length=n+2) (a3:2147483648<=d[n+1]) (co:n<=10000000) (a4:aR f) (am:ag f=e) (V:f.length=c) (el:c=a+(n+2)) (d4:c<=10000000) (ap:ag (f.drop a)<b) {H:kn->Prop} (ad:∀i h,i.length=a->aR i->h.length=c->aR h->ag h+b*ag i=e->ag h<b->H (i,h,())):ae (loop (σ:=(Z×bf×bf×bt)) (ρ:=kn) (λ(r,P,u,_)=>
 bif br (r>=0) then
 ((g8 r).bind λM=>(g8 (aM (ax (r+al d)))).bind λN=>(hZ M N u.length).bind λ_=>(wa u.length).map λ_=>(M,N)).bind λt=>
  bif b9 t.1 t.2 then
 (zY ((u,t.1,t.2),d,())).bind λ(ci,cs,_)=>
 wr P r cs λdl=>
 Y (.inl (ax (r-1),dl,ci,())) else bo else
 Y (.inr (P,u,()))) (ax (al (bI a (0:Z))-1),bI a (0:Z),f,())) H:=by
 have K:0<b:=(by have o:=GF L;have q:=fd (z.take n);have d0:=z.get (n:=n) aa;have d1:0<(d[n+1]*4294967296+d[n])*a2 n:=pV aa (fS n);omega);refine ae.steps a (λl cv=>∃i h,cv=(((a:X):Z)-1-l,i,h,())/\i.length=a/\aR i/\(∀g,g<a-l->(an:g<i.length)->i[g]=0)/\h.length=c/\aR h/\ag h+b*ag i=e/\ag (h.drop (a-l))<b) ⟨bI a 0,f,?_,ac,akK _,ac,V,a4,by rw[pQ,am];omega,ap⟩ ?_ ?_
 ·rw[show ax (al (bI a (0:Z))-1)=(a:Z)-1-((0:X):Z) from ?_];simp only[a7,sC];rw[bh aa aa];omega
 ·rintro l _ d9 ⟨i,h,rfl,ay,E,F,G,p,o,q⟩;obtain⟨g,an⟩:∃g,a=g+1+l:=⟨a-1-l,aa⟩;have ao:((a:X):Z)-1-(l:Z)=(g:Z):=aa;rw[(aa:a-l=g+1)] at q;have R:aM (ax ((g:Z)+al d))=((g+(n+3):X):Z):=by
   simp only[a7];rw[bh aa aa,(aa:(g:Z)+(d.length:Z)=((g+(n+2):X):Z)),bc aa];rfl
  simp only[ao,aF (aa:(g:Z)>=0),bG,R,vW,aE,vI (aa:g<=g+(n+3)/\g+(n+3)<=h.length),Kw (aa:0<h.length),ji,show b9 g (g+(n+3))=bq from by simp];obtain⟨m,v⟩:∃m,m=h.take g:=⟨_,bn⟩;obtain⟨j,B⟩:∃j,j=(h.drop g).take (n+3):=⟨_,bn⟩;obtain⟨k,x⟩:∃k,k=h.drop (g+(n+3)):=⟨_,bn⟩;have w:m.length=g:=(by rw[v,gn];omega);have s:j.length=n+3:=(by rw[B,gn,nF];omega);have y:h=m++(j++k):=(by rw[v,B,x,<-q9,jU,jU]);have d2:k.length=c-(g+(n+3)):=(by rw[x,nF,G]);have ce:aR m:=(by rw[v];exact p.take g);have D:aR j:=(by rw[B];exact(p.drop g).take _);have O:aR k:=(by rw[x];exact p.drop _);have d6:ag (h.drop g)=ag j+a2 (n+3)*ag k:=(by rw[y,sA aa,rc aa,ho,mu,s]);have d7:ag (h.drop g)=h[g]+4294967296*ag (h.drop (g+1)):=m0 aa;have eq:=p.get (n:=g) aa;have T:=fd O;have d3:0<=a2 (n+3)*ag k:=lx (fm (fS _)) T;have ek:ag (h.drop g)<4294967296*b:=aa;have U:ag k=0:=by
   rcases ih 0 (ag k) with S|S
   ·exfalso;have:=jA (aa:1<=ag k) (fm (fS (n+3)));have ds:a2 (n+3)=4294967296*a2 (n+2):=h3 (n+2);have:=fd D;omega
   omega
  have Q:y6 d j n:=⟨z,D,L,s,co,a3,by rw[J];omega⟩;have av:0<=ag j/b:=ak2 (fd D) aa;have a0:ag j/b<4294967296:=ape K aa;have d8:=alv (ag j) b;have em:=amt (ag j) K;have I:=Wy (A:=m) (C:=k) Q;rw[<-y,w,s,J] at I;refine ae.aJ I ?_;rintro _ ⟨c1,rfl,c2,dg,eC⟩;dsimp only;rw[lr aa];refine bu.2 ⟨i.set g (ag j/b),m++(c1++k),?_,by simp[ay],E.set av a0,?_,by simp;omega,amu.2 ⟨ce,amu.2 ⟨dg,O⟩⟩,?_,?_⟩
  ·rw[bh aa aa];congr 1;omega
  ·intro bs ex bx;rw[ze aa];exact F bs aa (by simpa using bx)
  ·rw[m1 aa,F g aa aa,mu,mu,w,eC];rw[y,mu,mu,w] at o;rw[c2];rw[s] at o;have bl:ag j=b*(ag j/b)+ag j %b:=aa;exact NL o bl
  rw[(aa:a-(l+1)=g),sA aa,rc aa,ho,mu,U,eC];omega
 rintro _ ⟨i,h,rfl,ay,E,F,G,p,o,q⟩;have ao:¬(((a:X):Z)-1-(a:Z)>=0):=aa;simp only[aA ao,bP];rw[alf,m5] at q;exact bu.2 (ad i h ay E G p o q)
def F2 {A B q r:Z} (f:0<B) (b:A=B*q+r) (c:0<=r) (d:r<B):A/B=q/\A %B=r:=by have e:=lX A B;have a:A/B=q:=(by rw[b,Int.mul_add_ediv_left _ _ aa,pT c d];omega);refine⟨a,?_⟩;rw[a] at e;omega
theorem WB (l:aR d) (p:aR f) (V:e9 d) (F:e9 f) (fl:d.length<=1000000) (fn:f.length<=1000000) (N:f≠[]):Dh (d,f,())=Y (eW (ag d/ag f).toNat,eW (ag d %ag f).toNat,()):=by
 unfold Dh;refine bO.1 ?_;have K:=fd l;have I:0<ag f:=(by have:=fd p;have:ag f≠0:=λam=>N (am5 p F am);omega);refine ae.bs (HQ l p V F aa aa) ?_;dsimp only;rw[c3];refine ae.ite (λt=>?_) λt=>?_
 ·have C:ag d<ag f:=by
   unfold gd at t;split at t
   ·assumption
   split at t<;>omega
  refine ae.bs (zG aa) (bu.2 ?_);rw[pT K C,ss K C];show(([]:aj6),d,())=(eW 0,eW (ag d).toNat,());rw[Iu,<-alR l V]
 have el:ag f<=ag d:=by
  unfold gd at t;split at t
  ·omega
  omega
 rw[fY,c3];refine ae.ite (λh=>?_) λh=>?_
 ·have h:f.length=1:=(by simp only[a7] at h;omega);obtain⟨o,rfl⟩:=List.length_eq_one_iff.1 h;have co:=(ak3.1 p).1;have u:ag [o]=o:=(by simp[ag]);rw[u] at I|-;have d2:0<=ag d %o:=amv _ aa;have ex:ag d %o<o:=amt _ I;refine ae.bs (y:=o) rfl (ae.bs (afd l aa aa co.2) ?_);dsimp only;refine ae.bs (oY (ak3.2 ⟨⟨d2,aa⟩,akJ⟩) ac) (bu.2 ?_);show(_,iG [ag d %o],())=_;rw[iG];simp[ag]
 obtain⟨b,cv⟩:∃b,f.length=b+2:=(by have:=uz.2 N;simp only[a7] at h;exact⟨f.length-2,aa⟩);have ao:ax (al f-1)=((b+1:X):Z):=(by simp only[a7];rw[bh aa aa];omega);obtain⟨a,T,d4,U,d5⟩:=Z3 p F cv;have em:b+2<=d.length:=by
  rcases cT d.length (b+2) with j|j
  ·have:=q3 l p F aa;omega
  exact j
 have D:=j5 a;refine ae.bs (y:=f[b+1]) (by rw[ao];exact eR aa) (ae.bs d4 ?_);refine ae.bs (Ls p aa aa) ?_;obtain⟨s,u⟩:∃s,s=eW (ag f*2^a).toNat:=⟨_,bn⟩;have bl:0<=ag f*2^a:=alS aa aa;have M:ag s=ag f*2^a:=(by rw[u,rK bl]);have vN:aR s:=(by rw[u];exact nj _);have d6:e9 s:=(by rw[u];exact xR _);obtain⟨ds,c1⟩:=WA M vN d6 U d5;rw[<-u];have an:aM (al d)=((d.length+1:X):Z):=bc aa;refine ae.bs (y:=d.length+1) (by rw[an];exact h0 aa) ?_;refine ae.bs (Ls l aa aa) ?_;have a4:0<=ag d*2^a:=alS aa aa;have ek:ag d*2^a<a2 (d.length+1):=(by have w:ag d*2^a<a2 d.length*2^a:=am9 (hd l) D;have x:a2 d.length*2^a<=a2 d.length*4294967296:=amw (by have:=wc T;omega) (akj (fS _));rw[h3,akF 4294967296];omega);obtain⟨m,E⟩:∃m,m=eW (ag d*2^a).toNat:=⟨_,bn⟩;have R:m.length<=d.length+1:=(by rw[E];exact rL aa);have d1:aR m:=(by rw[E];exact nj _);have d0:ag m=ag d*2^a:=(by rw[E,rK a4]);rw[<-E];obtain⟨i,O⟩:∃i,i=jF (bI (d.length+1) (0:Z)) m 0 (bI (d.length+1) (0:Z)).length:=⟨_,bn⟩;have J:i=m++bI (d.length+1-m.length) 0:=(by rw[O];unfold jF;rw[alV,aod,List.length_replicate,amZ,cl R,apf,alu R,apg]);have dg:i.length=d.length+1:=(by rw[J];simp;omega);have S:aR i:=(by rw[J];exact amu.2 ⟨d1,akK _⟩);have Q:ag i=ag d*2^a:=(by rw[J,mu,pQ,d0];omega);dsimp only;rw[<-O];obtain⟨g,cs⟩:∃g,d.length+1=g+(b+2):=⟨d.length+1-(b+2),aa⟩;have ap:ax (al i-al s)=((g:X):Z):=(by simp only[a7];rw[bh aa aa];omega);refine ae.bs (y:=g) (by rw[ap];exact h0 aa) ?_;have C:ag (i.drop g)<ag f*2^a:=(by have h:=oZ i g aa;have w:=fd (S.take g);rw[Q] at h;have x:ag d*2^a<a2 d.length*2^a:=am9 (hd l) D;have H:a2 d.length=a2 g*a2 (b+1):=(by rw[<-uq];congr 1;omega);have v:a2 g*ag (i.drop g)<a2 g*(a2 (b+1)*2^a):=(by rw[<-amx,<-H];omega);have z:=amy v (akj (fS g));have d9:a2 (b+1)*2^a<=a2 (b+1)*2147483648:=amw (wc T) (akj (fS _));omega);refine ae.aJ (P:=λad=>∃c e,ad=(c,e,())/\c.length=g/\aR c/\e.length=d.length+1/\aR e/\ag e+ag f*2^a*ag c=ag d*2^a/\ag e<ag f*2^a) (Wz vN M U ds c1 aa S Q dg cs aa C λc e h w x H v z=>⟨c,e,bn,h,w,x,H,v,z⟩) ?_;rintro _ ⟨c,e,rfl,ay,d3,fp,G,v,z⟩;have av:al s=((b+2:X):Z):=(by simp only[a7];omega);dsimp only;rw[av];refine ae.bs (Gl aa) ?_;have c2:=fd G;have dl:ag (e.take (b+2))=ag e:=by
  have h:=oZ e (b+2) aa;have w:=fd (G.drop (b+2));have x:=fd (G.take (b+2));rcases ih 0 (ag (e.drop (b+2))) with j|j
  ·exfalso;have:=jA (aa:1<=ag (e.drop (b+2))) (fm (fS (b+2)));omega
  rw[(aa:ag (e.drop (b+2))=0)] at h;omega
 have L:ag e=2^a*(ag d-ag f*ag c):=(by have d7:ag f*2^a*ag c=2^a*(ag f*ag c):=(by grind);have d8:2^a*(ag d-ag f*ag c)=2^a*ag d-2^a*(ag f*ag c):=Int.mul_sub ..;rw[jP (ag d)] at v;omega);have bx:0<=ag d-ag f*ag c:=by
  rcases ih (ag d-ag f*ag c) 0 with j|j
  ·have:=aph D j;omega
  exact j
 have ce:ag d-ag f*ag c<ag f:=(by have:2^a*(ag d-ag f*ag c)<2^a*ag f:=(by rw[<-L,akF (2^a)];exact z);exact amy this (akj D));have ci:ag e/2^a=ag d-ag f*ag c:=(by rw[L];exact api _ aa);obtain⟨a3,f2⟩:=F2 (A:=ag d) (B:=ag f) (q:=ag c) (r:=ag d-ag f*ag c) I aa bx ce;refine ae.bs (oY ((G.take _).drop _) (by simp;omega)) ?_;have a0:iG (aob 0 (e.take (b+2)))=eW (ag e).toNat:=(by rw[List.drop_zero,iG,dl]);dsimp only;rw[a0];refine ae.bs (NP (nj _) (xR _) ?_ aa) ?_
 ·have:=rL (n:=(ag e).toNat) (k:=b+2) aa;omega
 dsimp only;refine ae.bs (oY d3 aa) (bu.2 ?_);show(iG c,_,())=_;rw[rK c2,ci,a3,f2,iG]
def N6 (a:X):eW (a:Z).toNat=eW a:=by rw[fU]
theorem AK (b:aO c<=32*a):(eW c).length<=a:=by refine rL ?_;grind [q7,yv,fW]
theorem CP:gd b e>=0↔e<=b:=by grind [gd]
theorem Ng:gd b e<0↔b<e:=by grind [gd]
def Ca (a:oc):Prop:=aR a.2.1/\e9 a.2.1/\a.2.1.length<=100000
def hI {z:Z} (a:aO z.natAbs<=3000000):Ca (aN z):=⟨mK z,EI z,AK aa⟩
theorem pP (a:aR d) (b:e9 d) (e:d.length<=1000000):iP (d,())=Y (d,()):=by have c:=alR a b;rw[oY a aa];show Y (eW (ag d).toNat,())=_;grind
theorem sU {neg:bA} {x:Z} (a:0<=x) (b:(eW x.toNat).length<=100000000):md (neg,eW x.toNat,())=Y (aN (if neg then-x else x),()):=by grind [rK,xe,nj,hm]
theorem WT {x y:X} {k:X} (a:(eW x).length<=k) (b:(eW y).length<=k):(eW (x+y)).length<=k+1:=by refine rL ?_;have c:=N5 x;have d:=N5 y;have e:=pH a;have f:=pH b;grind [h3,fS]
def yX {l:aj6} (d:aR l) (c:l.length<=a) (g:b<=ag l):(eW b.toNat).length<=a:=by refine rL ?_;have e:=hd d;have f:=pH c;have:=fS a;omega
theorem Mj {a b:oc} (t:Ca a) (u:Ca b):u6 (a,b,())=Y (aN (hm a+hm b),()):=by
 obtain⟨j,a,_⟩:=a;obtain⟨k,b,_⟩:=b;obtain⟨c,g,r⟩:=t;obtain⟨d,h,s⟩:=u;dsimp only at c g r d h s;have x:=fd c;have y:=fd d;have ay:=hd c;have z:=hd d;have A:=pH (m:=a.length) (n:=100000) r;have B:=pH (m:=b.length) (n:=100000) s;have C:=fS 100000;have w:∀e:Z,e<=ag a+ag b->(eW e.toNat).length<=100000001:=λe v=>(by have:(eW e.toNat).length<=100001:=(by refine rL ?_;grind [h3]);omega);have q:∀e:Z,e<=ag a+ag b->(eW e.toNat).length<=100000000:=λe v=>(by have:(eW e.toNat).length<=100001:=(by refine rL ?_;grind [h3]);omega);unfold u6;dsimp only;refine ai (pP c g aa) (ai (pP d h aa) ?_);dsimp only;cases i:(j==k) with
 |true=>
  have i:j=k:=(by grind);subst i;refine ai (Rs c d aa aa) (ai (sU aa (q _ aa)) ?_);grind [hm]
 |false=>
  have i:j=!k:=(by cases j<;>cases k<;>simp at i|-);refine ai (HQ c d g h aa aa) ?_;dsimp only;rw[c3];split
  ·rename_i l;have p:ag b<=ag a:=CP.1 l;have o:b.length<=a.length:=by
    rcases cT a.length b.length with f|f
    ·have:=q3 c d h f;omega
    omega
   refine ai (PQ c d aa o p) (ai (sU aa (q _ aa)) ?_);grind [hm]
  rename_i l;have p:ag a<ag b:=Int.not_le.1 (mt CP.2 l);have o:a.length<=b.length:=by
   rcases cT b.length a.length with f|f
   ·have:=q3 d c g f;omega
   omega
  refine ai (PQ d c aa o (fm p)) (ai (sU aa (q _ aa)) ?_);grind [hm]
def Mi {x y:Z} (a:aO x.natAbs<=3000000) (b:aO y.natAbs<=3000000):u6 (aN x,aN y,())=Y (aN (x+y),()):=by rw[Mj (hI a) (hI b),oa,oa]
theorem afC {x y:Z} (b:aO x.natAbs<=3000000) (c:aO y.natAbs<=3000000):Dg (aN x,aN y,())=Y (aN (x-y),()):=by unfold Dg;have a:Ca ((!(aN y).1,(aN y).2):oc):=⟨mK y,EI y,(hI c).2.2⟩;refine ai (Mj (hI b) a) ?_;rw[oa];have d:hm ((!(aN y).1,(aN y).2):oc)=-y:=(by have:=GC (aN y).1 (aN y).2.1;have e:=oa y;grind);grind
theorem ZL (f:aO b.natAbs<=3000000) (g:aO e.natAbs<=3000000):De (aN b,aN e,())=Y (aN (b*e),()):=by
 unfold De;dsimp only;obtain⟨a,h,l⟩:=hI f;obtain⟨c,i,m⟩:=hI g;refine ai (pP a h aa) (ai (pP c i aa) ?_);dsimp only;refine ai (afT a c aa aa) ?_;rw[hW,hW,<-ama,N6];dsimp only;have n:(eW (b.natAbs*e.natAbs)).length<=100000000:=(by have:(eW (b.natAbs*e.natAbs)).length<=200000:=(by refine AK ?_;have:=xi f g;omega);omega);have d:=sU (neg:=!((aN b).1==(aN e).1)) (x:=((b.natAbs*e.natAbs:X):Z)) aa (by grind);rw[N6] at d;refine ai d ?_;dsimp only;congr 3;show(if(!(br (b<0)==br (e<0)))=bq then _ else _)=_;rw[ama];rcases ak1 b 0 with j|j<;>rcases ak1 e 0 with k|k
 ·grind
 ·grind
 ·grind
 grind
theorem Nh {x y:Z} (i:aO x.natAbs<=900000) (l:aO y.natAbs<=900000):zW (aN x,aN y,())=Y (gd x y,()):=by
 obtain⟨c,d,m⟩:=hI (z:=x) aa;obtain⟨e,f,n⟩:=hI (z:=y) aa;unfold zW;refine ai (ue (jY aa)) (ai (ue (jY aa)) ?_);dsimp only;rw[c3,c3];have h:∀a:Z,a<0/\fv a=-1\/a=0/\fv a=0\/0<a/\fv a=1:=λa=>(by grind [fv]);split
 ·rename_i o;unfold gd;grind
 split
 ·rename_i j k;unfold gd;grind
 rename_i j k;have p:fv x=fv y:=aa;refine ai (pP c d aa) (ai (pP e f aa) ?_);dsimp only;refine ai (HQ c e d f aa aa) ?_;rw[hW,hW];dsimp only;have i:=h x;have l:=h y;have:fv x*gd (x.natAbs:Z) (y.natAbs:Z)=gd x y:=by
  rcases i with⟨g,b⟩|⟨g,b⟩|⟨g,b⟩<;>rw[b]
  ·unfold gd;omega
  ·rw[om];unfold gd;omega
  grind
 grind [bh,gd]
def ZO (b:Z) (a:X):(b.natAbs:Z)*2^a=((b.natAbs*2^a:X):Z):=by simp
theorem HA:aO (a*2^c)<=aO a+c:=by
 rcases rk a with b|b
 ·grind
 simp_all [sV,bd]
theorem afc (i:aO b.natAbs<=1900000) (h:a<=1048576):rC (aN b,(a:Z),())=Y (aN (b*2^a),0,()):=by obtain⟨c,d,f⟩:=hI (z:=b) aa;unfold rC;dsimp only;rw[aA (aa:¬((a:Z)< -1048576)),aA (aa:¬((a:Z)>1048576))];refine ai bn (ai (pP c d aa) ?_);dsimp only;rw[aF (aa:(a:Z)>=0)];refine ai (Ls c aa aa) ?_;rw[hW,ZO];have g:(eW (b.natAbs*2^a)).length<=100000:=AK (by grind [HA]);have e:=sU (neg:=(aN b).1) (x:=((b.natAbs*2^a:X):Z)) aa (by grind);refine ai e ?_;dsimp only;congr 3;show(if br (b<0)=bq then _ else _)=_;grind
theorem Qb {m:Z} (a:0<b) (d:0<=m):-m/b=if m %b=0 then-(m/b) else-(m/b+1):=by
 have e:=lX m b;have f:=oj m (aa:b≠0);have g:=pU m a;split
 ·rename_i c;refine(F2 (A:=-m) (B:=b) (q:=-(m/b)) (r:=0) a ?_ (alb _) a).1;grind
 rename_i c;refine(F2 (A:=-m) (B:=b) (q:=-(m/b+1)) (r:=b-m %b) a ?_ aa aa).1;grind
theorem afb (u:aO b.natAbs<=1900000) (q:a<=1048576) (r:0<a):rC (aN b,-(a:Z),())=Y (aN (b/2^a),0,()):=by
 obtain⟨e,f,g⟩:=hI (z:=b) aa;have i:=j5 a;unfold rC;dsimp only;rw[aA (aa:¬(-(a:Z)< -1048576)),aA (aa:¬(-(a:Z)>1048576))];refine ai bn (ai (pP e f aa) ?_);dsimp only;rw[aA (aa:¬(-(a:Z)>=0))];have ao:ax (0- -(a:Z))=(a:Z):=(by grind [bh]);rw[ao];refine ai (NP e f aa aa) ?_;rw[hW];have s:0<=(b.natAbs:Z)/2^a:=ak2 aa aa;have j:(b.natAbs:Z)/2^a<=b.natAbs:=amz _ aa;have h:∀d:Z,d<=b.natAbs->(eW d.toNat).length<=100000:=λd t=>yX (l:=(aN b).2.1) e g (by grind [hW]);have p:(eW ((b.natAbs:Z)/2^a+1).toNat).length<=100001:=(by have n:=WT (x:=((b.natAbs:Z)/2^a).toNat) (y:=1) (k:=100000) (h _ j) ab;grind);dsimp only;refine ai (y:=(eW (if b<0/\(b.natAbs:Z) %2^a≠0 then(b.natAbs:Z)/2^a+1 else(b.natAbs:Z)/2^a).toNat,(bp,([],())),())) ?_ ?_
 ·refine ai (y:=(br (b<0/\(b.natAbs:Z) %2^a≠0),(bp,([],())),())) ?_ ?_
  ·show(bif br (b<0)==bq then _ else _)=_;by_cases c:b<0
   ·simp[c]
   grind
  dsimp only;by_cases c:b<0/\(b.natAbs:Z) %2^a≠0
  ·rw[aF c,aw c];refine ai (Rs (nj _) (ak3.2 ⟨ab,akJ⟩) (by grind) ac) ?_;grind [rK,ag]
  grind
 dsimp only;refine ai (sU ?_ ?_) ?_
 ·omega
 ·grind
 dsimp only;congr 3;show(if br (b<0)=bq then _ else _)=_;by_cases c:b<0
 ·rw[aw (aF c)];have o:=Qb (m:=b.natAbs) i aa;grind
 grind
theorem WC {x y:Z} (u:aO x.natAbs<=1900000) (w:aO y.natAbs<=1900000) (v:0<=x) (k:y≠0):Dc (aN x,aN y,())=Y (aN (x/y),aN (x %y),0,()):=by obtain⟨b,d,g⟩:=hI (z:=x) aa;obtain⟨c,e,h⟩:=hI (z:=y) aa;unfold Dc;dsimp only;refine ai (pP c e aa) ?_;dsimp only;have f:(aN y).2.1≠[]:=λi=>k (vw.1 i);rw[tG,aA f];refine ai (pP b d aa) ?_;dsimp only;refine ai (WB b c d e aa aa f) ?_;rw[hW,hW];dsimp only;have m:(aN x).1=bp:=aA aa;have n:0<=(x.natAbs:Z)/(y.natAbs:Z):=ak2 aa aa;have s:(x.natAbs:Z)/(y.natAbs:Z)<=x.natAbs:=amz _ aa;have o:0<=(x.natAbs:Z) %(y.natAbs:Z):=amv _ aa;have t:(x.natAbs:Z) %(y.natAbs:Z)<(y.natAbs:Z):=amt _ aa;have q:∀a:Z,a<=x.natAbs->(eW a.toNat).length<=100000:=λa p=>yX (l:=(aN x).2.1) b g (by grind [hW]);have r:∀a:Z,a<=y.natAbs->(eW a.toNat).length<=100000:=λa p=>yX (l:=(aN y).2.1) c h (by grind [hW]);rw[m];refine ai bn ?_;dsimp only;refine ai (sU n (by grind)) (ai (sU o (by grind)) ?_);dsimp only;have ao:(x.natAbs:Z)=x:=aa;rw[ao];have j:x %(y.natAbs:Z)=x %y:=(by grind [apj,ak1]);rw[j];congr 3;show(if(!(bp==br (y<0)))=bq then _ else _)=_;grind [aA,aF,apk,ak1]
theorem EX {n:Z} (c:-9223372036854775808<=n) (d:n<=9223372036854775807):u7 (n,())=Y (aN n,()):=by
 unfold u7;dsimp only;obtain⟨a,e,b,f⟩:∃a:Z,a=n.natAbs/\0<=a/\a<=9223372036854775808:=⟨_,bn,aa,aa⟩;refine ai (y:=(a,(bp,([],())),())) ?_ ?_
 ·rw[c3];grind [sh]
 dsimp only;rw[nz,bK,rW b aa,lq (x:=a/4294967296) aa aa];refine ai (xe (ak3.2 ⟨⟨aa,aa⟩,ak3.2 ⟨⟨aa,aa⟩,akJ⟩⟩) ac) ?_;grind [ag,hm]
theorem Ys (c:aR d) (s:d.length<=2) {e:cM->Prop} (q:e (ag d,())):ae (loop (σ:=nf) (ρ:=cM) (λ(j,b,_)=>
 bif br (b<al d) then
 (ar d b).bind λo=>
 (ig bD (aK o) (ax (32*b))).bind λp=>
 Y (.inl (gv bD j p,aM b,())) else
 Y (.inr (j,()))) (0,0,())) e:=by
 refine ae.steps d.length (λa n=>n=(ag (d.take a),(a:Z),())) rfl ?_ ?_
 ·rintro a _ g rfl;have i:=c.get g;simp only[aF (show(a:Z)<al d by grind),bG,eR g,aE];have k:=fd (c.take a);have f:=hd (c.take a);rw[gn,hN aa,q7] at f;have ao:ax (32*(a:Z))=((32*a:X):Z):=(by grind [bh]);have l:(2:Z)^(32*a)<=4294967296:=by
   rcases(aa:a=0\/a=1) with rfl|rfl<;>decide
  have m:=j5 (32*a);have r:d[a]*2^(32*a)<4294967296*4294967296:=(by have:=jA l i.1;omega);have h:0<=d[a]*2^(32*a):=lx i.1 (fm m);rw[ao,fE (x:=d[a]) aa aa,n8 aa aa,aE,fU,ss h aa,nr (32*a) k f h aa aa (ana _ _),bc aa];grind [iH,q7,akF,bu]
 rintro _ rfl;simp_all [bu,fN,bd,aA,a7,bP,al]
theorem Yt {z:Z} (h:0<=z) (c:z<9223372036854775808):Dd (aN z,())=Y (z,bq,()):=by have i:aO z.natAbs<=64:=fW.2 aa;obtain⟨a,b,g⟩:=hI (z:=z) aa;have d:(aN z).2.1.length<=2:=AK aa;unfold Dd;dsimp only;refine bO.1 ?_;refine ae.bs (pP a b aa) ?_;dsimp only;rw[aA (show¬(al (aN z).2.1>2) by grind),bP];refine ae.aJ (P:=λf=>f=(z,())) (Ys a d (by grind [hW])) ?_;rintro _ rfl;have e:(aN z).1=bp:=aA aa;dsimp only;rw[e];refine ae.bs (y:=.inr (z,bq,())) ?_ (bu.2 bn);refine ai bn ?_;dsimp only[bP];rw[aF (show z<9223372036854775808 from c)];refine ai bn ?_;dsimp only[bG];grind [bh]
theorem Gd (p:aR d) (q:d.length<=100000000):mI (d,())=Y (iG d,()):=by
 unfold mI;refine bO.1 ?_;refine ae.aJ (P:=λh=>∃a:X,h.1=(a:Z)/\a<=d.length/\(∀b,a<=b->(k:b<d.length)->d[b]=0)/\e9 (d.take a)) ?_ ?_
 ·refine akn (λe=>∃a:X,e.1=(a:Z)/\a<=d.length/\(∀b,a<=b->(k:b<d.length)->d[b]=0)) (λe=>e.1.toNat) ⟨d.length,bn,bd _,λb f g=>by omega⟩ ?_;rintro⟨_,_⟩ ⟨a,rfl,f,g⟩;rcases a with _|a
  ·refine bu.2 ⟨0,bn,eU _,g,λm l=>by grind⟩
  have ao:ax (((a+1:X):Z)-1)=(a:Z):=(by grind [bh]);have j:br (((a+1:X):Z)>0)=bq:=aF aa;simp only[ao,j,akB,bG,eR (show a<d.length from f),aE];by_cases i:d[a]=0
  ·rw[fY,aF i];grind [cn,bu]
  rw[fY,aA i];refine bu.2 ⟨a+1,bn,f,g,λm l=>?_⟩;grind
 rintro⟨_,_⟩ ⟨a,rfl,f,g,n⟩;dsimp only;refine ae.aJ (P:=λh=>h=(d.take a,())) ?_ ?_
 ·refine ae.steps a (λc e=>e=((c:Z),d.take c,())) rfl ?_ ?_
  ·rintro c _ o rfl;simp only[aF (aa:(c:Z)<(a:Z)),bG,eR (aa:c<d.length),aE];grind [akd,bX,bu,eS,bc]
  rintro _ rfl;simp_all [bu,aA,bP]
 grind [bu,Tl]
theorem BG (c:aR d) (e:d.length<=100000000):me (h,d,())=Y (aN (hm (h,d,())),()):=by
 unfold me;refine ai (Gd c e) ?_;have a:=N2 (neg:=h) (Lm d) (Tk d);have b:hm (h,iG d,())=hm (h,d,()):=(by grind [Ln,hm]);rw[<-b,<-a];dsimp only;cases h
 ·simp
 simp_all [akB,bG,amk,aj8,a7,uz]
theorem qS (a:aR d) (c:d.length<=100000000) (e:ag d=b):me (h,d,())=Y (aN (if h then-b else b),()):=by grind [BG,hm]
theorem ub {l:aj6} (a:aR l) (b:e9 l) (d:l.length<=1000000):mI (l,())=Y (l,()):=by have c:=alR a b;rw[Gd a aa];show Y (eW (ag l).toNat,())=_;grind
def R8 {a:oc} (b:aR a.2.1) (c:a.2.1.length<=100000000):pk (a,())=Y (aN (hm a),()):=by unfold pk;exact ai (BG b c) rfl
def r9 (a:aO b.natAbs<=3000000):pk (aN b,())=Y (aN b,()):=by rw[R8 (mK b) (by have:=(hI a).2.2;omega),oa]
theorem KP (a:aO b.natAbs<=3000000):xH (aN b,())=Y (aN (-b),()):=by unfold xH;refine ai (BG (mK b) (by have:=(hI a).2.2;omega)) ?_;grind [oa,GC]
theorem Bx (a:aO b.natAbs<=3000000):rD (aN b,())=Y (aN b.natAbs,()):=by unfold rD;refine ai (BG (mK b) (by have:=(hI a).2.2;omega)) ?_;grind [oa,Ty,mK]
theorem j6 {z:Z} (a:aO z.natAbs<=3000000):k5 (aN z,())=Y (fv z,()):=by
 unfold k5;refine ai (r9 a) ?_;simp only[tG,c3,vw];unfold fv;split
 ·rfl
 show(bif br (z<0) then _ else _)=_;grind
theorem KD {z:Z} (d:aO z.natAbs<=3000000):Aj (aN z,())=Y ((aO z.natAbs:Z),()):=by obtain⟨a,b,e⟩:=hI d;have c:=Pm a b aa;rw[hW] at c;unfold z1 at c;unfold Aj;refine ai (ub a b aa) ?_;grind
theorem Sk (v:aO b.natAbs<=900000) (s:b≠0):rF (aN b,())=Y ((cV b.natAbs:Z),()):=by
 obtain⟨e,i,r⟩:=hI (z:=b) aa;unfold rF;refine ai (ub e i aa) ?_;have u:=hW b;dsimp only;generalize(aN b).2.1=a at*;have m:b.natAbs=(ag a).toNat:=aa;rw[m];refine bO.1 (ae.aJ (P:=λo=>match o with|.inl _=>b4|.inr p=>p=((cV (ag a).toNat:Z),())) ?_ ?_)
 ·refine ae.steps a.length (λc q=>q=((c:Z),())/\ag (a.take c)=0) ⟨bn,bn⟩ ?_ ?_
  ·rintro c _ f ⟨rfl,j⟩;have h:=e.get f;simp only[aF (show(c:Z)<al a by grind),bG,eR f,aE,fL];by_cases d:a[c]=0
   ·simp only[aF d,ir,bP];grind [iH,bu,bc]
   simp only[aA d,od,bG];have k:=Tt (x:=0) j f e d;rw[k];obtain⟨g,l⟩:=gh h.1;rw[l] at h d|-;have t:cV g<32:=jh (wz aa) (fW.2 aa);refine ae.of_eq (ai (Ts (n:=g) aa aa) rfl) ?_;grind [bh]
  grind
 grind [bu]
theorem RI {n:X} (c:n<=1000000000):∃b a:X,n=32*b+a/\a<32/\kA bL (n:Z) 32=Y (b:Z)/\jf (n:Z) 32=Y (a:Z):=by
 refine⟨n/32,n %32,aa,aa,?_,?_⟩
 ·unfold kA;rw[aw ab,GO aa,cu aa aa];simp
 simp_all [aw,GP,jf]
theorem KR {n:X} (u:aR d) (I:d.length<=10000000) (E:n<=100000000):ae (xJ (d,(n:Z),())) (λl=>∃a,l=(a,())/\aR a/\ag a=ag d*2^n/\a.length=n/32+d.length+1):=by
 unfold xJ;obtain⟨g,b,H,F,v,w⟩:=RI (n:=n) aa;have j:=j5 b;have A:=wb (p:=b) aa;have z:(2:Z)^b<=2147483648:=wc aa;dsimp only;refine ae.bs v (ae.bs (h0 aa) ?_);refine ae.aJ (P:=λl=>∃c a,l=(c,a,())/\a.length=g+d.length/\aR a/\0<=c/\c<2^b/\ag a+a2 (g+d.length)*c=a2 g*(2^b*ag d)) ?_ ?_
 ·refine ae.steps d.length (λe y=>∃c a,y=(c,(e:Z),a,())/\a.length=g+e/\aR a/\0<=c/\c<2^b/\ag a+a2 (g+e)*c=a2 g*(2^b*ag (d.take e))) ⟨0,bI g 0,bn,ac,akK _,aa,j,by simp[ag,pQ]⟩ ?_ ?_
  ·rintro e _ m ⟨c,a,rfl,ay,h,i,q,k⟩;have o:=u.get m;simp only[aF (show(e:Z)<al d by grind),bG,eR m,aE,w];have C:d[e]*2^b<4294967296*2^b:=su o.2 j;have B:d[e]*2^b<=4294967295*2^b:=nD aa aa;have D:0<=d[e]*2^b:=lx o.1 (fm j);obtain⟨f,G,J,K,L⟩:∃f,f=c+d[e]*2^b/\0<=f/\f<18446744073709551616/\f<4294967296*2^b:=⟨_,bn,aa,aa,aa⟩;have r:ig bD (aK d[e]) (b:Z)=Y (d[e]*2^b):=by
    rw[fE (x:=d[e]) aa aa,n8 aa aa,fU];congr 1;omega
   have s:gv bD c (d[e]*2^b)=f:=(by grind [nr,ana]);have t:f/4294967296<2^b:=sr ab aa;rw[r,aE,s,eS (by grind),nz,pR];refine bu.2 ⟨f/4294967296,a++[f %4294967296],by rw[bc aa],by grind,h.snoc aa aa,aa,t,?_⟩;grind [uq,alv,q4,h3,iH]
  rintro _ ⟨c,a,rfl,ay,h,i,q,k⟩;simp only[aA (show¬((d.length:Z)<al d) by grind),bP];rw[fN (bd _)] at k;grind [bu]
 rintro _ ⟨c,a,rfl,ay,h,i,q,k⟩;dsimp only;rw[lq i aa,eS (by grind)];refine bu.2 ⟨a++[c],bn,h.snoc i aa,?_,by grind⟩;grind [q4,q7,apl]
theorem RO (g:aR d) (h:aR f) (o:e9 d) (p:e9 f) (t:d.length<=10000000) (u:f.length<=10000000):Am (d,f,())=Y (gd (ag d) (ag f),()):=by
 unfold Am;refine bO.1 ?_;simp only[fL,a7];by_cases s:d.length=f.length
 ·rw[aF (aa:(d.length:Z)=f.length)];simp only[ir,bP];refine ae.aJ (P:=λl=>match l with|.inl _=>ag d=ag f|.inr m=>m=(gd (ag d) (ag f),())) ?_ ?_
  ·refine ae.steps d.length (λb n=>n=(((d.length:X):Z)-1-b,())/\ag (d.drop (d.length-b))=ag (f.drop (d.length-b))) ⟨?_,?_⟩ ?_ ?_
   ·grind [bh]
   ·rw[pZ aa,pZ aa]
   ·rintro b _ q ⟨rfl,e⟩;obtain⟨a,r⟩:∃a,d.length=a+1+b:=⟨d.length-1-b,aa⟩;have ao:((d.length:X):Z)-1-(b:Z)=(a:Z):=aa;have i:a<d.length:=aa;have j:a<f.length:=aa;rw[(aa:d.length-b=a+1)] at e;simp only[ao,aF (aa:(a:Z)>=0),bG,eR i,eR j,aE];by_cases k:d[a]=f[a]
    ·simp only[aF k,ir,bP];grind [m0,bh,bu]
    simp only[aA k,od,bG];rw[c3];refine ae.ite (λc=>?_) λc=>?_
    ·refine bu.2 ?_;show((-1:Z),())=_;unfold gd;rw[aw (GD g h i j e c)]
    refine bu.2 ?_;show((1:Z),())=_;have:=GD h g j i e.symm aa;grind [gd]
   rintro _ ⟨rfl,e⟩;have ao:¬(((d.length:X):Z)-1-(d.length:Z)>=0):=aa;simp_all [bu,aA,bP]
  grind [bu,gd,ag]
 rw[aA (aa:¬(d.length:Z)=f.length)];simp only[od,bG];rw[c3];unfold gd;refine ae.ite (λc=>bu.2 ?_) λc=>bu.2 ?_
 ·rw[aw (q3 g h p aa)]
 have:=q3 h g o aa;grind
theorem Y5 (k:aR d) (v:j<32) (u:c+a<d.length) (t:b=ag (d.drop c)):b/2^j/a2 a %4294967296=(d[c+a]+4294967296*d.getD (c+a+1) 0)/2^j %4294967296:=by
 have q:=j5 j;have s:=wb (p:=j) aa;have r:b/a2 a=(d[c+a]+4294967296*d.getD (c+a+1) 0)+4294967296*(4294967296*ag (d.drop (c+a+2))):=by
  have h:d.drop c=(d.drop c).take a++d.drop (c+a):=(by grind [al5,amj]);have g:b=ag ((d.drop c).take a)+a2 a*ag (d.drop (c+a)):=(by grind [mu,akv,anS,alu]);have m:=fd ((k.drop c).take a);have i:=hd ((k.drop c).take a);rw[gn,nF,hN aa] at i;have n:ag (d.drop (c+a))=d[c+a]+4294967296*ag (d.drop (c+a+1)):=m0 aa;have o:ag (d.drop (c+a+1))=d.getD (c+a+1) 0+4294967296*ag (d.drop (c+a+2)):=by
   rcases cT (c+a+1) d.length with f|f
   ·grind [m0,j1]
   rw[pu f,pZ f,pZ aa];rfl
  rw[g,wP _ _ aa,pT m i,n,o];grind
 have h:b/2^j/a2 a=b/a2 a/2^j:=(by rw[uu (fm q),uu (fm (fS a)),jP]);rw[h,r];generalize d[c+a]+4294967296*d.getD (c+a+1) 0=l;have g:∀e:Z,l+4294967296*(4294967296*e)=l+2^j*(4294967296*(2^(32-j)*e)):=λe=>(by grind);rw[g,wP _ _ aa,za]
theorem Ze (e:aR d) (l:c<32) (j:a<d.length):(br (ag d %(a2 a*2^c)≠0))=(br (ag (d.take a)≠0)||br (d[a] %2^c≠0)):=by have h:=j5 c;have k:=wb (p:=c) aa;have i:=fd (e.take a);have f:=hd (e.take a);rw[gn,hN aa] at f;have g:=PB (x:=ag (d.take a)) (b:=a2 a) (y:=ag (d.drop a)) (P:=2^c) (P':=0) (fS a) ⟨i,f⟩ h;rw[<-oZ d a aa] at g;simp_all [m0,jz,za,ag]
theorem KS {a:aj6} {n:X} (f:aR a) (bl:a.length<=10000000) (a0:n<=1000000000):ae (xK (a,(n:Z),())) (λh=>∃e,h=(e,br (ag a %2^n≠0),())/\aR e/\ag e=ag a/2^n/\e.length<=a.length):=by
 unfold xK;obtain⟨b,d,R,C,o,O⟩:=RI (n:=n) aa;have y:=j5 d;have am:=wb (p:=d) aa;have V:(2:Z)^d<=2147483648:=wc aa;have K:(2:Z)^n=a2 b*2^d:=(by rw[q7,R,apl]);have E:=fd f;dsimp only;refine ae.aJ (P:=λh=>h=(br (ag (a.take b)≠0),())) ?_ ?_
 ·have a4:∀c,min b a.length=c->br (ag (a.take b)≠0)=br (ag (a.take c)≠0):=λc s=>by
   grind
  refine ae.steps (min b a.length) (λc m=>m=(br (ag (a.take c)≠0),(c:Z),())) (by simp[ag]) ?_ ?_
  ·rintro c _ s rfl;have q:=f.get (n:=c) aa;simp only[o,aE,aF (aa:(c:Z)<(b:Z)),akB,bG,aF (show(c:Z)<al a by grind),eR (aa:c<a.length),bc (aa:c<9223372036854775807),fL];have v:ag (a.take (c+1))=ag (a.take c)+a2 c*a[c]:=iH aa;have ad:=fd (f.take c);have w:=fS c;by_cases i:ag (a.take c)=0
   ·rw[aA (show¬(ag (a.take c)≠0) fromλk=>k i)];refine bu.2 ?_;show((!br (a[c]=0)),_,())=_;congr 1;rw[v,i];by_cases U:a[c]=0
    ·grind
    have:=pV w (aa:0<a[c]);grind
   rw[aF (show ag (a.take c)≠0 from i)];refine bu.2 ?_;show(bq,_,())=_;congr 1;have:=lx (fm w) q.1;grind
  rintro _ rfl;simp only[o,aE];by_cases i:min b a.length<b
  ·simp only[aF (aa:((min b a.length:X):Z)<(b:Z)),akB,bG,aA (show¬(((min b a.length:X):Z)<al a) by grind),bP,aE];grind [bu]
  simp only[aA (aa:¬(((min b a.length:X):Z)<(b:Z))),show(bp==bq)=bp from rfl,bP,aE];grind [bu]
 rintro _ rfl;dsimp only;refine ae.bs O (ae.bs o ?_);rw[K];rcases cn b a.length with k|k
 ·obtain⟨g,z⟩:∃g,g=ag (a.drop b):=⟨_,bn⟩;have A:0<=g:=(by rw[z];exact fd (f.drop b));have Q:ag a=ag (a.take b)+a2 b*g:=(by grind [oZ]);have N:=fd (f.take b);have B:=hd (f.take b);rw[gn,hN aa] at B;have an:ag a/(a2 b*2^d)=g/2^d:=by
   rw[<-uu (fm (fS b)),Q,wP _ _ aa,pT N B,alw]
  obtain⟨l,av⟩:∃l,a.length=b+l:=⟨a.length-b,aa⟩;have ap:g<a2 l:=(by have:=hd (f.drop b);grind);have J:=Ze f C k;refine ae.aJ (P:=λh=>∃e,h=(br (ag a %(a2 b*2^d)≠0),e,())/\e.length=l/\aR e/\ag e=g/2^d) ?_ ?_
  ·refine ae.steps l (λc m=>∃e,m=(if c=0 then br (ag (a.take b)≠0) else br (ag a %(a2 b*2^d)≠0),((b+c:X):Z),e,())/\e.length=c/\aR e/\ag e+a2 c*(g/2^d/a2 c)=g/2^d) ⟨[],bn,bn,akJ,by simp[ag,y4]⟩ ?_ ?_
   ·rintro c _ s ⟨e,rfl,ay,t,F⟩;have q:=f.get (n:=b+c) aa;have S:=f.getD (b+c+1);obtain⟨j,D,T,bx⟩:∃j,j=a[b+c]+4294967296*a.getD (b+c+1) 0/\0<=j/\j<18446744073709551616:=⟨_,bn,aa,aa⟩;have L:g/2^d/a2 c %4294967296=j/2^d %4294967296:=(by rw[D];exact Y5 f C aa z);have a3:0<=j/2^d:=ak2 T (akj y);have G:aM ((b+c:X):Z)=((b+c+1:X):Z):=bc aa;dsimp only;rw[aZ (aF (show((b+c:X):Z)<al a by grind))];refine ae.aJ (P:=λh=>h=(br (ag a %(a2 b*2^d)≠0),e++[j/2^d %4294967296],())) ?_ ?_
    ·refine ae.bs (eR aa) ?_;refine ae.aJ (P:=λh=>h=(j,e,())) ?_ ?_
     ·rw[G,c3];refine ae.ite (λi=>?_) λi=>?_
      ·have i:b+c+1<a.length:=(by grind);rw[eR i,aE,fE (x:=a[b+c+1]) (by grind) (by grind),n8 ab ab];rw[j1 i] at D S;have H:a[b+c+1]*2^(32:Z).toNat %18446744073709551616=4294967296*a[b+c+1]:=by
        grind
       rw[aE,H,fE aa aa,nr 32 q.1 q.2 aa aa aa aa];grind [bu]
      grind [a7,pu,fE,bu]
     rintro _ rfl;dsimp only;refine ae.aJ (P:=λh=>h=(br (ag a %(a2 b*2^d)≠0),e,())) ?_ ?_
     ·refine ae.bs o ?_;by_cases M:c=0
      ·subst M;have r:(((b+0:X):Z)==(b:Z))=bq:=ac;rw[r];simp only[akB,bG];refine ae.bs (eR aa) ?_;rw[SJ aa aa,aE,fU,alU,ss aa aa,lq aa aa,Mq d (f.get (n:=b+0) aa).1 (f.get (n:=b+0) aa).2 aa,fL,J];grind [aA,bu,aF]
      have r:(((b+c:X):Z)==(b:Z))=bp:=(by grind);rw[r];simp only[show(bp==bq)=bp from rfl,bP];simp_all [au,bu]
     rintro _ rfl;dsimp only;rw[ud aa aa,bK,akE,eS (by grind),pR];grind [bu]
    rintro _ rfl;dsimp only;refine bu.2 ⟨e++[j/2^d %4294967296],by grind,by grind,t.snoc aa aa,?_⟩;rw[q4,ay,<-L,h3,akF 4294967296 (a2 c),<-apa (akj (fS c))];grind
   rintro _ ⟨e,rfl,ay,t,F⟩;dsimp only;rw[aW (aA (show¬(((b+l:X):Z)<al a) by grind)),cc aa];refine bu.2 ⟨e,bn,ay,t,?_⟩;have u:0<=g/2^d:=ak2 A (akj y);have I:g/2^d<=g:=amz _ A;rw[Int.ediv_eq_zero_of_lt u aa] at F;omega
  grind [bu]
 have u:=hd f;have I:=pH k;have v:a2 b*1<=a2 b*2^d:=jA aa (fm (fS b));rw[pT E aa,ss E aa,fN k];refine ae.aJ (P:=λh=>h=(br (ag a≠0),[],())) ?_ ?_
 ·refine ae.steps 0 (λc m=>m=(br (ag a≠0),(b:Z),[],())) rfl (λc m s=>by omega) ?_;rintro _ rfl;simp_all [bu,aW,aA,al]
 rintro _ rfl;exact bu.2 ⟨[],bn,akJ,bn,ac⟩
theorem ad6 (o:aR d) (p:aR f) (y:d.length<=10000000) (z:f.length<=10000000):ae (D2 (d,f,())) (λh=>∃a,h=(a,())/\aR a/\ag a=ag d+ag f/\a.length<=d.length+f.length+1):=by
 unfold D2;dsimp only;obtain⟨g,u⟩:∃g,g=max d.length f.length:=⟨_,bn⟩;have q:(if al f>al d then al f else al d)=(g:Z):=(by grind);rw[q];refine ae.aJ (P:=λh=>∃b a,h=(b,a,())/\a.length=g/\aR a/\0<=b/\b<=1/\ag a+a2 g*b=ag d+ag f) ?_ ?_
 ·refine ae.steps g (λc r=>∃b a,r=(b,(c:Z),a,())/\a.length=c/\aR a/\0<=b/\b<=1/\ag a+a2 c*b=ag (d.take c)+ag (f.take c)) ⟨0,[],bn,bn,akJ,aa,aa,by simp[ag]⟩ ?_ ?_
  ·rintro c _ t ⟨b,a,rfl,l,i,j,m,n⟩;have w:=o.getD c;have x:=p.getD c;obtain⟨e,v,A,B,s⟩:∃e,e=b+d.getD c 0+f.getD c 0/\0<=e/\e<18446744073709551616/\e/4294967296<=1:=⟨_,bn,aa,aa,aa⟩;dsimp only;rw[aZ (aF (aa:(c:Z)<(g:Z)))];refine ae.aJ (P:=λh=>h=(e/4294967296,a++[e %4294967296],())) ?_ ?_
   ·refine ae.aJ (P:=λh=>h=(b+d.getD c 0,a,())) ?_ ?_
    ·simp only[c3];refine ae.ite (λk=>?_) λk=>?_
     ·grind [fE,bu,j1,eR,a7]
     simp_all [pu,amq,bu]
    rintro _ rfl;refine ae.aJ (P:=λh=>h=(e,a,())) ?_ ?_
    ·simp only[c3];refine ae.ite (λk=>?_) λk=>?_
     ·grind [fE,bu,j1,eR,a7]
     simp_all [pu,amq,bu]
    grind [eS,pR,nz,bu]
   rintro _ rfl;dsimp only;refine bu.2 ⟨e/4294967296,a++[e %4294967296],by rw[bc aa],by grind,i.snoc aa aa,aa,s,?_⟩;rw[q4,l,h3,yY,yY];grind
  rintro _ ⟨b,a,rfl,l,i,j,m,n⟩;dsimp only;rw[aW (aA (aa:¬((g:Z)<(g:Z))))];grind [bu,cl]
 rintro _ ⟨b,a,rfl,l,i,j,m,n⟩;dsimp only;rw[eS (by grind),lq j aa];refine bu.2 ⟨a++[b],bn,i.snoc j aa,?_,by grind⟩;grind [q4]
theorem SK (a:Z):eN .u64 a 63=Y (a/9223372036854775808):=by have:eN .u64 a 63=Y (a.fdiv 9223372036854775808):=rfl;grind
theorem Sj (o:aR d) (p:aR f) (A:d.length<=10000000) (w:f.length<=d.length) (x:ag f<=ag d):ae (An (d,f,())) (λg=>∃a,g=(a,())/\aR a/\ag a=ag d-ag f/\a.length=d.length):=by
 unfold An;dsimp only;refine ae.aJ (P:=λg=>∃a b,g=(a,())/\a.length=d.length/\aR a/\0<=b/\b<=1/\ag a-a2 d.length*b=ag d-ag f) ?_ ?_
 ·refine ae.steps d.length (λc q=>∃b a,q=(b,(c:Z),a,())/\a.length=c/\aR a/\0<=b/\b<=1/\ag a-a2 c*b=ag (d.take c)-ag (f.take c)) ⟨0,[],bn,bn,akJ,aa,aa,by simp[ag]⟩ ?_ ?_
  ·rintro c _ l ⟨b,a,rfl,h,i,j,k,m⟩;have y:=o.get l;have z:=p.getD c;obtain⟨e,v,r,s⟩:∃e,e=d[c]-b-f.getD c 0/\-4294967296<=e/\e<4294967296:=⟨_,bn,aa,aa⟩;dsimp only;rw[aZ (aF (show(c:Z)<al d by grind))];refine ae.aJ (P:=λg=>g=(-(e/4294967296),a++[e %4294967296],())) ?_ ?_
   ·refine ae.bs (eR l) ?_;refine ae.aJ (P:=λg=>g=(e %18446744073709551616,a,())) ?_ ?_
    ·simp_all [a7,pu,bu,sh,eR,j1,ae.ite,c3]
    grind [eS,pR,SK,bu]
   rintro _ rfl;dsimp only;refine bu.2 ⟨-(e/4294967296),a++[e %4294967296],by rw[bc aa],by grind,i.snoc aa aa,aa,aa,?_⟩;rw[q4,h,h3,iH l,yY];grind
  rintro _ ⟨b,a,rfl,h,i,j,k,m⟩;dsimp only;rw[aW (aA (show¬((d.length:Z)<al d) by grind))];refine bu.2 ⟨a,b,bn,h,i,j,k,?_⟩;simp_all [cl,cd]
 rintro _ ⟨a,b,rfl,h,i,j,k,m⟩;have n:=hd i;have t:=fS d.length;rw[h] at n;have u:b=0:=(by grind);grind [bu]
theorem aeN (y:aR f) (q:a<f.length) (z:aR d) (L:a+d.length<c) (J:c<=100000000) (w:g.length=c) (x:aR g) (C:i6 g (a+d.length)) {p:i5->Prop} (K:∀h b,b.length=c->aR b->i6 b (a+d.length)->0<=h->h<4294967296->ag b+a2 (a+d.length)*h=ag g+a2 a*(f[a]*ag d)->p (h,b,())):ae (loop (σ:=qh) (ρ:=i5) (λ(k,j,m,_)=>
 bif br (j<al d) then
 (ar f (a:Z)).bind λu=>
 (ar d j).bind λs=>
 rd m (ax ((a:Z)+j)) λt=>
 wr m (ax ((a:Z)+j)) (eC (aK (aK (k+aK (aK u*aK s))+aK t))) λI=>
 (eN bD (aK (aK (k+aK (aK u*aK s))+aK t)) 32).bind λH=>
 Y (.inl (H,aM j,I,())) else
 Y (.inr (k,m,()))) (0,0,g,())) p:=by
 refine ae.steps d.length (λe G=>∃h b,G=(h,(e:Z),b,())/\b.length=c/\aR b/\i6 b (a+d.length)/\0<=h/\h<4294967296/\ag b+a2 (a+e)*h=ag g+a2 a*(f[a]*ag (d.take e))) ⟨0,g,bn,w,x,C,aa,aa,by simp[ag]⟩ ?_ ?_
 ·rintro e _ l ⟨h,b,rfl,ay,o,r,D,E,F⟩;have A:=y.get q;have B:=z.get l;have N:=o.get (n:=a+e) aa;have M:=Bg A B;obtain⟨i,O,P,Q⟩:∃i,i=h+f[a]*d[e]+b[a+e]/\0<=i/\i<18446744073709551616:=⟨_,bn,aa,aa⟩;simp only[aF (show(e:Z)<al d by grind),bG,eR l,eR q,aE];have ao:ax ((a:Z)+(e:Z))=((a+e:X):Z):=(by grind [bh]);rw[ao,je aa];have v:aK (aK (h+aK (aK f[a]*aK d[e]))+aK b[a+e])=i:=by
   grind [fE]
  rw[v,pR,lr aa,nz];refine bu.2 ⟨i/4294967296,b.set (a+e) (i %4294967296),by rw[bc aa],by grind,o.set aa aa,r.KY _ aa,aa,aa,?_⟩;rw[m1 aa,(aa:a+(e+1)=(a+e)+1),h3,iH l];grind [uq,alv]
 rintro _ ⟨h,b,rfl,ay,o,r,D,E,F⟩;simp_all [fN,bd,bu,aA,a7,bP,al]
theorem aeG (s:aR f) (t:aR d) (v:f.length<=10000000) (w:d.length<=10000000):ae (D4 (f,d,())) (λg=>∃a,g=(a,())/\aR a/\ag a=ag f*ag d/\a.length=f.length+d.length):=by
 unfold D4;dsimp only;have r:ax (al f+al d)=((f.length+d.length:X):Z):=(by grind [bh,a7]);rw[r,h0 aa,bK];refine ae.aJ (P:=λg=>∃a,g=(a,())/\a.length=f.length+d.length/\aR a/\ag a=ag f*ag d) ?_ ?_
 ·refine ae.steps f.length (λb u=>∃a,u=((b:Z),a,())/\a.length=f.length+d.length/\aR a/\i6 a (b+d.length)/\ag a=ag (f.take b)*ag d) ⟨_,bn,ac,akK _,i6.lT _ _,by simp[ag,pQ]⟩ ?_ ?_
  ·rintro b _ m ⟨a,rfl,ay,o,p,q⟩;dsimp only;rw[aZ (aF (show(b:Z)<al f by grind))];refine ae.aJ (P:=λg=>∃e c,g=(e,c,())/\c.length=f.length+d.length/\aR c/\i6 c (b+d.length)/\0<=e/\e<4294967296/\ag c+a2 (b+d.length)*e=ag a+a2 b*(f[b]*ag d)) (aeN s m t aa aa ay o p λe c n k h i j l=>⟨e,c,bn,n,k,h,i,j,l⟩) ?_;rintro _ ⟨e,c,rfl,n,k,h,i,j,l⟩;have ao:ax ((b:Z)+al d)=((b+d.length:X):Z):=(by grind [bh,a7]);dsimp only;rw[ao,lq i j,lr aa];refine bu.2 ⟨c.set (b+d.length) e,by rw[bc aa],by grind,k.set i j,?_,?_⟩
   ·rw[(aa:b+1+d.length=b+d.length+1)];exact h.set _
   rw[m1 aa,h _ (bd _) aa,iH m,am8,l,q];grind
  rintro _ ⟨a,rfl,ay,o,p,q⟩;dsimp only;rw[aW (aA (show¬((f.length:Z)<al f) by grind))];grind [bu]
 grind [bu]
section
section
variable {α B:Type}
theorem KH {d c e:bm α} {k:X} (g:k<c.length) (f:b=((d.length+k:X):Z)) (a:α->bv B):rd (d++(c++e)) b a=a c[k]:=by subst f;refine ael aa ?_ a;grind
theorem agy {a c d:bm α} {k:X} (g:k<c.length) (h:b=((a.length+k:X):Z)) (f:α) (e:bm α->bv B):wr (a++(c++d)) b f e=e (a++(c.set k f++d)):=by subst h;rw[lr (by grind),BO g]
end
theorem afQ {A w C v:aj6} {g:Z} (u:aR v) (x:aR w) (V:w.length=v.length+1) (O:A.length+w.length<=100000000) (H:0<=g/\g<4294967296):ae (Ao (A++(w++C),v,(A.length:Z),g,())) (λd=>(ag w<g*ag v/\d=(A++(w++C),bp,()))\/(∃l,g*ag v<=ag w/\d=(A++(l++C),bq,())/\l.length=w.length/\aR l/\ag l=ag w-g*ag v)):=by
 unfold Ao;dsimp only;have y:aM (al v)=((v.length+1:X):Z):=(by grind [bc,a7]);rw[y,h0 aa,bK];have R:=fd u;have Q:=fd x;refine ae.aJ (P:=λd=>∃c b,d=(c,A++(w++C),b,())/\b.length=v.length+1/\aR b/\0<=c/\c<=1/\ag b-a2 (v.length+1)*c=ag w-g*ag v) ?_ ?_
 ·refine ae.steps (v.length+1) (λa p=>∃c h b,p=(c,h,(a:Z),A++(w++C),b,())/\b.length=v.length+1/\aR b/\i6 b a/\0<=h/\h<4294967296/\(a=v.length+1->h=0)/\0<=c/\c<=1/\ag b-a2 a*(c+h)=ag (w.take a)-g*ag (v.take a)) ⟨0,0,bI (v.length+1) 0,bn,ac,akK _,i6.lT _ _,aa,aa,λ_=>rfl,aa,aa,by simp[ag,pQ]⟩ ?_ ?_
  ·rintro a _ I ⟨c,h,b,rfl,m,i,j,q,o,r,D,E,s⟩;have L:=u.getD a;have ad:=x.get (n:=a) aa;have U:=Bg H L;obtain⟨f,K,am,an⟩:∃f,f=h+g*v.getD a 0/\0<=f/\f<18446744073709551616:=⟨_,bn,aa,aa⟩;obtain⟨e,S,M,N⟩:∃e,e=w[a]-c-f %4294967296/\-4294967296<=e/\e<4294967296:=⟨_,bn,aa,aa⟩;dsimp only;rw[aZ (aF (show(a:Z)<=al v by grind))];refine ae.aJ (P:=λd=>d=(-(e/4294967296),f/4294967296,A++(w++C),b.set a (e %4294967296),())) ?_ ?_
   ·refine ae.aJ (P:=λd=>d=(f,A++(w++C),b,())) ?_ ?_
    ·rw[c3];refine ae.ite (λB=>?_) λB=>?_
     ·grind [fE,bu,j1,eR,a7]
     grind [a7,pu,bu]
    rintro _ rfl;dsimp only;have ao:ax ((a:Z)+(A.length:Z))=((A.length+a:X):Z):=(by grind [bh]);have z:aK (aK (aK w[a]-c)-e0 bD f 4294967295)=e %18446744073709551616:=(by grind [and_low32,sh]);rw[KH (k:=a) aa ao,nz,bK,z,lr aa,SK,bK,pR];refine bu.2 ?_;grind
   rintro _ rfl;dsimp only;refine bu.2 ⟨-(e/4294967296),f/4294967296,b.set a (e %4294967296),by rw[bc aa],by grind,i.set aa aa,j.set _,aa,aa,?_,aa,aa,?_⟩
   ·grind
   rw[m1 aa,j a (bd _) aa,h3,iH (aa:a<w.length),yY];grind
  rintro _ ⟨c,h,b,rfl,m,i,j,q,o,r,D,E,s⟩;dsimp only;rw[aW (aA (show¬(((v.length+1:X):Z)<=al v) by grind))];have G:=r bn;subst G;rw[cl aa,cl aa,amq] at s;grind [bu]
 rintro _ ⟨c,b,rfl,m,i,j,q,o⟩;have J:=hd i;have T:=fd i;have K:=fS (v.length+1);rw[m] at J;dsimp only;rw[fL];by_cases t:c=0
 ·rw[aF t];subst t;rw[alT] at o;refine ae.aJ (P:=λd=>d=(A++(b++C),())) ?_ ?_
  ·refine ae.steps (v.length+1) (λa p=>p=((a:Z),A++((b.take a++w.drop a)++C),b,())) rfl ?_ ?_
   ·rintro a _ I rfl;have ao:ax ((a:Z)+(A.length:Z))=((A.length+a:X):Z):=(by grind [bh]);dsimp only;rw[aZ (aF (show(a:Z)<=al v by grind)),je aa,agy (k:=a) (by grind) ao,bc aa];refine bu.2 ?_;show(_,A++(List.set (b.take a++w.drop a) a b[a]++C),b,())=(_,A++((b.take (a+1)++w.drop (a+1))++C),b,());congr 4;have F:b.take (a+1)=b.take a++[b[a]]:=(by simp_all);rw[apb _ _ (by grind),F,akv,alu aa,alf,List.drop_eq_getElem_cons (aa:a<w.length),List.set_cons_zero,ald];rfl
   rintro _ rfl;dsimp only;rw[aW (aA (show¬(((v.length+1:X):Z)<=al v) by grind))];grind [cl,List.drop_eq_nil_of_le,bu]
  grind [bu]
 grind [aA,bu]
theorem aeo {n:X} (D:aR d) (cs:ag d=b) (id:d.length=n+1) (f9:b<a2 (n+1)) (gc:1<=d[n]) (dg:aR f) (f8:ag f=e) (co:f.length=c) (hs:c=a+(n+1)) (f6:c<=10000000) (hv:1<=a) (c2:ag (f.drop a)<b) (s:aj6) (ge:s.length=n+1) {J:kn->Prop} (f7:∀l j,l.length=a->aR l->j.length=c->aR j->ag j+b*ag l=e->ag j<b->J (j,l,())):ae (loop (σ:=(Z×bf×bf×bt)) (ρ:=kn) (λ(t,E,U,_)=>
 bif br (t>=0) then
 rd E (ax (t+al s)) λfr=>
 (ig bD (aK fr) 32).bind λfs=>
 rd E (ax (ax (t+al s)-1)) λft=>
 (ar d (ax (al s-1))).bind λfz=>
 (kA bD (gv bD fs (aK ft)) (aK fz)).bind λan=>
 (loop (σ:=(Z×bf×bf×bt)) (ρ:=(Z×bf×bf×bt)) (λ(F,fl,V,_)=>
 (Ao (fl,d,t,F,())).bind λ(R,ek,_)=>
  bif !ek then
 Y (.inl (aK (F-1),R,V,())) else
 Y (.inr (F,R,V,()))) ((if 4294967295<an then 4294967295 else an),E,U,())).bind λ(a3,fn,d8,_)=>
 wr d8 t (eC a3) λfT=>
 Y (.inl (ax (t-1),fn,fT,())) else
 Y (.inr (E,U,()))) (((a:Z)-1),f,bI a (0:Z),())) J:=by
 have ii:ag d=ag (d.take n)+a2 n*d[n]:=(by grind [iH,cl]);have ic:=fd (D.take n);have ds:=hd (D.take n);rw[gn,hN aa] at ds;have d0:=D.get (n:=n) aa;have G:0<b:=(by have:=pV (fS n) (aa:0<d[n]);omega);refine ae.steps a (λq z=>∃l j,z=(((a:X):Z)-1-q,j,l,())/\l.length=a/\aR l/\(∀i,i<a-q->(c1:i<l.length)->l[i]=0)/\j.length=c/\aR j/\ag j+b*ag l=e/\ag (j.drop (a-q))<b) ⟨bI a 0,f,ac,ac,akK _,ac,co,dg,by grind [pQ],c2⟩ ?_ ?_
 ·rintro q _ hc ⟨l,j,rfl,ay,S,T,ex,B,a4,K⟩;obtain⟨i,c1⟩:∃i,a=i+1+q:=⟨a-1-q,aa⟩;have ao:((a:X):Z)-1-(q:Z)=(i:Z):=aa;rw[(aa:a-q=i+1)] at K;obtain⟨p,bl⟩:∃p,p=j.take i:=⟨_,bn⟩;obtain⟨h,N⟩:∃h,h=(j.drop i).take (n+2):=⟨_,bn⟩;obtain⟨m,bx⟩:∃m,m=j.drop (i+(n+2)):=⟨_,bn⟩;have L:p.length=i:=(by grind);have io:h.length=n+2:=(by rw[N,gn,nF];omega);have dl:j=p++(h++m):=by
   grind [al5,amj]
  have f4:m.length=c-(i+(n+2)):=(by grind);have d7:aR p:=(by rw[bl];exact B.take i);have u:aR h:=(by rw[N];exact(B.drop i).take _);have Q:aR m:=(by rw[bx];exact B.drop _);have gf:ag (j.drop i)=ag h+a2 (n+2)*ag m:=(by grind [List.drop_of_length_le,mu]);have gi:ag (j.drop i)=j[i]+4294967296*ag (j.drop (i+1)):=m0 aa;have is:=B.get (n:=i) aa;have ce:=fd Q;have f5:0<=a2 (n+2)*ag m:=lx (fm (fS _)) ce;have hr:ag (j.drop i)<4294967296*b:=aa;have d1:=fd u;have ci:ag m=0:=by
   rcases ih 0 (ag m) with o|o
   ·exfalso;have:=jA (aa:1<=ag m) (fm (fS (n+2)));grind [h3]
   omega
  have H:0<=ag h/b:=ak2 d1 aa;have M:ag h/b<4294967296:=ape G aa;have gl:=alv (ag h) b;have hw:=amt (ag h) G;have ib:=amv (ag h) (aa:b≠0);have O:=u.get (n:=n+1) aa;have d2:=u.get (n:=n) aa;have i1:ax ((i:Z)+al s)=((p.length+(n+1):X):Z):=(by simp only[a7];rw[bh aa aa];omega);have d3:ax (ax ((i:Z)+al s)-1)=((p.length+n:X):Z):=(by rw[i1,bh aa aa];omega);have d4:ax (al s-1)=((n:X):Z):=(by simp only[a7];rw[bh aa aa];omega);obtain⟨el,em⟩:=Gx (x:=h[n+1]) (y:=h[n]) O d2;obtain⟨eq,i0⟩:=F1 (x:=4294967296*h[n+1]+h[n]) (y:=d[n]) ⟨aa,aa⟩ aa;have gt:ag h/b<=(4294967296*h[n+1]+h[n])/d[n]:=(by rw[anb aa];have f0:ag h=ag (h.take n)+a2 n*(4294967296*h[n+1]+h[n]):=(by grind [GF]);have ap:=hd (u.take n);rw[akv,alu aa] at ap;have f1:a2 n*(ag h/b*d[n])<=ag h:=(by have f2:ag h/b*(a2 n*d[n])<=ag h/b*b:=amw aa H;grind);have av:a2 n*(ag h/b*d[n])<a2 n*(4294967296*h[n+1]+h[n]+1):=(by grind);have:=amy av (akj (fS n));omega);dsimp only;rw[ao,aZ (aF (aa:(i:Z)>=0))]
  conv=>arg 1;rw[dl]
  rw[KH (k:=n+1) aa i1];refine ae.bs (by rw[fE O.1 aa];exact el) ?_;rw[KH (k:=n) aa d3];refine ae.bs (by rw[d4];exact eR aa) ?_;refine ae.bs (by rw[em,fE d0.1 aa];exact eq) ?_;refine ae.aJ (P:=λd9=>∃r,d9=(ag h/b,p++(r++m),l,())/\r.length=n+2/\aR r/\ag r=ag h %b) ?_ ?_
  ·have go:0<=(4294967296*h[n+1]+h[n])/d[n]:=my aa aa;refine akn (λz=>∃o,z=(o,p++(h++m),l,())/\ag h/b<=o/\o<4294967296) (λz=>z.1.toNat) ⟨_,bn,aa,aa⟩ ?_;rintro _ ⟨o,rfl,f3,a0⟩;have ad:=afQ (A:=p) (w:=h) (C:=m) (v:=d) (g:=o) D u aa aa ⟨aa,a0⟩;rw[L] at ad;refine ae.aJ ad ?_;rintro _ (⟨I,rfl⟩|⟨r,I,rfl,ix,d5,d6⟩)
   ·have gs:ag h/b<o:=by
     grind
    refine bu.2 ⟨⟨o-1,by rw[fE aa aa],aa,aa⟩,?_⟩;show(aK (o-1)).toNat<o.toNat;rw[fE aa aa];omega
   rw[cs] at I d6;have hi:o<=ag h/b:=(anb G).2 I;have cv:o=ag h/b:=aa;refine bu.2 ⟨r,by rw[cv],aa,d5,?_⟩;grind
  rintro _ ⟨r,rfl,i2,fp,am⟩;dsimp only;rw[lq H M,lr aa];refine bu.2 ⟨l.set i (ag h/b),p++(r++m),?_,by grind,S.set H M,?_,by simp;omega,amu.2 ⟨d7,amu.2 ⟨fp,Q⟩⟩,?_,?_⟩
  ·rw[bh aa aa];grind
  ·grind [List.getElem_set_ne]
  ·rw[m1 aa,T i aa aa,mu,mu,L,am];grind [NL,mu]
  rw[(aa:a-(q+1)=i),sA aa,rc aa,ho,mu,ci,am];omega
 rintro _ ⟨l,j,rfl,ay,S,T,ex,B,a4,K⟩;have ao:¬(((a:X):Z)-1-(a:Z)>=0):=aa;simp_all [bu,alf,m5,aA,bP]
end
theorem Z4 {n:X} (f:aR d) (j:e9 d) (t:d.length=n+1):∃c:X,c<=31/\vc (d[n],())=Y ((c:Z),())/\ag d*2^c<a2 (n+1)/\2147483648*a2 n<=ag d*2^c:=by
 have i:=f.get (n:=n) aa;have m:d[n]≠0:=j _ (by grind);have o:ag d=ag (d.take n)+a2 n*d[n]:=(by grind [iH,cl]);have p:=fd (f.take n);have h:=hd (f.take n);rw[gn,hN aa] at h;generalize d[n]=u at*;obtain⟨a,rfl⟩:=gh i.1;have g:0<a:=aa;have r:aO a<=32:=fW.2 aa;have q:=qn g;obtain⟨k,l⟩:=xh g;obtain⟨b,s⟩:∃b,aO a=b+1:=⟨aO a-1,aa⟩;refine⟨32-aO a,aa,?_,?_,?_⟩
 ·unfold vc;refine ai (Jq (n:=a) aa) ?_;grind [bh]
 ·have ao:ag d<a2 n*2^aO a:=by
   have:a2 n*((a:Z)+1)<=a2 n*2^aO a:=jA (by grind) (fm (fS _));grind
  have e:ag d*2^(32-aO a)<a2 n*2^aO a*2^(32-aO a):=su ao (j5 _);rw[jz,<-ly,(aa:aO a+(32-aO a)=32)] at e;grind [akF,h3]
 have ao:a2 n*2^b<=ag d:=(by have:a2 n*2^b<=a2 n*(a:Z):=jA (by grind) (fm (fS _));omega);have e:a2 n*2^b*2^(32-aO a)<=ag d*2^(32-aO a):=nD ao (fm (j5 _));rw[jz,<-ly,(aa:b+(32-aO a)=31)] at e;omega
theorem afP (b:aR d) (e:a<=d.length) (f:ag d<a2 a):ag (d.take a)=ag d:=by
 have g:=oZ d a e;have h:=fd (b.drop a);have i:=fd (b.take a);rcases ih 0 (ag (d.drop a)) with c|c
 ·exfalso;have:=jA (aa:1<=ag (d.drop a)) (fm (fS a));omega
 grind
theorem RP (l:aR f) (m:aR d) (I:e9 f) (w:e9 d) (dl:f.length<=1000000) (ds:d.length<=1000000) (co:d≠[]):D3 (f,d,())=Y (eW (ag f/ag d).toNat,eW (ag f %ag d).toNat,()):=by
 unfold D3;refine bO.1 ?_;have C:=fd l;have O:0<ag d:=(by have:=fd m;grind [am5]);refine ae.bs (RO l m I w aa aa) ?_;dsimp only;rw[c3];refine ae.ite (λs=>?_) λs=>?_
 ·have o:ag f<ag d:=Ng.1 s;refine bu.2 ?_;rw[pT C o,ss C o];show(([]:aj6),f,())=(eW 0,eW (ag f).toNat,());rw[Iu,<-alR l I]
 have cs:ag d<=ag f:=Int.not_lt.1 (mt Ng.2 s);obtain⟨b,D⟩:∃b,d.length=b+1:=(by simp_all [uz]);have ao:ax (al d-1)=((b:X):Z):=(by grind [bh,a7]);obtain⟨c,av,a0,a3,d5⟩:=Z4 m w D;have cv:b+1<=f.length:=by
  rcases cT f.length (b+1) with j|j
  ·have:=q3 l m w aa;omega
  omega
 have E:=j5 c;refine ae.bs (y:=d[b]) (by grind [eR]) (ae.bs a0 ?_);refine ae.aJ (KR l aa (n:=c) aa) ?_;rintro _ ⟨p,rfl,H,G,F⟩;refine ae.aJ (KR m aa (n:=c) aa) ?_;rintro _ ⟨K,rfl,ap,dg,am⟩;rw[(aa:c/32=0),apf] at F am;have N:al d=((b+1:X):Z):=(by grind);dsimp only;refine ae.bs (y:=(0,b+1)) ?_ ?_
 ·rw[N,aE,vW,aE,vI ⟨eU _,aa⟩,aE,Kw aa];rfl
 obtain⟨h,V⟩:∃h,h=(K.take (b+1)).drop 0:=⟨_,bn⟩;have ad:h=K.take (b+1):=(by grind);have vN:aR h:=(by rw[ad];exact ap.take _);have S:ag h=ag d*2^c:=(by grind [afP]);have an:h.length=b+1:=(by grind);have U:1<=h[b]:=by
  have u:ag h=ag (h.take b)+a2 b*h[b]:=(by grind [iH,cl]);have k:=hd (vN.take b);rw[gn,hN aa] at k;have c1:=fS b;rcases ih h[b] 1 with j|j
  ·exfalso;have:h[b]=0:=(by have:=vN.get (n:=b) aa;omega);grind
  omega
 dsimp only;rw[<-V];refine ae.bs (y:=(h,p,())) ?_ ?_
 ·grind
 obtain⟨g,T⟩:∃g,f.length+1=g+(b+1):=⟨f.length+1-(b+1),aa⟩;have M:ax (al f-al d)=(g:Z)-1:=(by grind [bh,a7]);have a4:aM (ax (al f-al d))=((g:X):Z):=(by grind [cu]);dsimp only;refine ae.bs (y:=g) (by grind [h0]) ?_;have o:ag (p.drop g)<ag d*2^c:=(by have t:=oZ p g aa;have x:=fd (H.take g);rw[G] at t;have u:ag f*2^c<a2 f.length*2^c:=am9 (hd l) E;have z:a2 f.length=a2 g*a2 b:=(by grind [uq]);have k:a2 g*ag (p.drop g)<a2 g*(a2 b*2^c):=(by grind [amx]);have v:=amy k (akj (fS g));have bx:a2 b*2^c<=a2 b*2147483648:=amw (wc av) (akj (fS _));omega);rw[M];refine ae.aJ (P:=λL=>∃e i,L=(i,e,())/\e.length=g/\aR e/\i.length=f.length+1/\aR i/\ag i+ag d*2^c*ag e=ag f*2^c/\ag i<ag d*2^c) (aeo vN S an a3 U H G F T aa aa o d D λe i t x u z k v=>⟨e,i,bn,t,x,u,z,k,v⟩) ?_;rintro _ ⟨e,i,rfl,ay,d4,d6,J,k,v⟩;have c2:=fd J;have ce:ag i=2^c*(ag f-ag d*ag e):=(by grind);have Q:0<=ag f-ag d*ag e:=by
  rcases ih (ag f-ag d*ag e) 0 with j|j
  ·have:=aph E j;omega
  omega
 have R:ag f-ag d*ag e<ag d:=(by simp_all [amy,akj,akF,ag]);have ci:ag i/2^c=ag f-ag d*ag e:=(by grind [api]);obtain⟨bl,f2⟩:=F2 (A:=ag f) (B:=ag d) (q:=ag e) (r:=ag f-ag d*ag e) O aa Q R;dsimp only;refine ae.bs (Gd J aa) ?_;dsimp only;refine ae.aJ (KS (a:=iG i) (n:=c) (Lm i) (by grind [Tj]) aa) ?_;rintro _ ⟨d0,rfl,d1,d2,d3⟩;grind [Ln,ae.bs,Gd,bu,Tj,iG]
theorem By {x y:Z} (n:aO x.natAbs<=3000000) (o:aO y.natAbs<=3000000):qv (aN x,aN y,())=Y (aN (x+y),()):=by
 obtain⟨a,f,r⟩:=hI n;obtain⟨b,g,s⟩:=hI o;unfold qv;dsimp only;refine bO.1 ?_;refine ae.bs (ub a f aa) (ae.bs (ub b g aa) ?_);dsimp only;have u:=hW x;have v:=hW y;have p:(aN x).1=br (x<0):=rfl;have q:(aN y).1=br (y<0):=rfl;rw[p,q];by_cases m:(br (x<0)==br (y<0))=bq
 ·rw[aZ m];refine ae.aJ (ad6 a b aa aa) ?_;rintro _ ⟨k,rfl,d,e,l⟩;refine ae.bs (qS d (by grind) e) (bu.2 ?_);grind
 rw[aW (by grind)];have t:¬(x<0↔y<0):=(by grind);refine ae.bs (RO a b f g aa aa) ?_;dsimp only;rw[c3];refine ae.ite (λh=>?_) λh=>?_
 ·have j:=CP.1 h;have i:(aN y).2.1.length<=(aN x).2.1.length:=by
   rcases cT (aN x).2.1.length (aN y).2.1.length with c|c
   ·have:=q3 a b g c;omega
   omega
  refine ae.aJ (Sj a b aa i j) ?_;rintro _ ⟨k,rfl,d,e,l⟩;refine ae.bs (qS d (by grind) e) (bu.2 ?_);grind
 have j:ag (aN x).2.1<ag (aN y).2.1:=Int.not_le.1 (mt CP.2 h);have i:(aN x).2.1.length<=(aN y).2.1.length:=by
  rcases cT (aN y).2.1.length (aN x).2.1.length with c|c
  ·have:=q3 b a f c;omega
  omega
 refine ae.aJ (Sj b a aa i (fm j)) ?_;rintro _ ⟨k,rfl,d,e,l⟩;refine ae.bs (qS d (by grind) e) (bu.2 ?_);grind
theorem Si (a:aO b.natAbs<=3000000) (c:aO e.natAbs<=3000000):xI (aN b,aN e,())=Y (aN (b-e),()):=by simp_all [ai,By,alW,Int.sub_eq_add_neg,KP,xI]
theorem tZ {x y:Z} (g:aO x.natAbs<=3000000) (h:aO y.natAbs<=3000000):pj (aN x,aN y,())=Y (aN (x*y),()):=by
 obtain⟨a,c,k⟩:=hI g;obtain⟨b,d,l⟩:=hI h;unfold pj;dsimp only;refine bO.1 ?_;refine ae.bs (ub a c aa) (ae.bs (ub b d aa) ?_);dsimp only;refine ae.aJ (aeG a b aa aa) ?_;rintro _ ⟨m,rfl,i,j,n⟩;refine ae.bs (qS i (by grind) j) (bu.2 ?_);dsimp only;rw[hW,hW];congr 2;show(if(!(br (x<0)==br (y<0)))=bq then _ else _)=_;rcases ak1 x 0 with e|e<;>rcases ak1 y 0 with f|f
 ·grind
 ·grind
 ·grind
 grind
theorem F9 {n:Z} (b:-9223372036854775808<=n) (c:n<=9223372036854775807):rE (n,())=Y (aN n,()):=by
 unfold rE;dsimp only;obtain⟨a,d,e,f⟩:∃a:Z,a=n.natAbs/\0<=a/\a<=9223372036854775808:=⟨_,bn,aa,aa⟩;refine ai (y:=(a,(bp,([],())),())) ?_ ?_
 ·rw[c3];grind [fE,cu,bh]
 dsimp only;rw[nz,bK,pR a,lq (x:=a/4294967296) aa aa];refine ai (BG (ak3.2 ⟨⟨aa,aa⟩,ak3.2 ⟨⟨aa,aa⟩,akJ⟩⟩) ac) ?_;grind [ag,hm]
theorem Sh {z:Z} {n:X} (a:aO z.natAbs<=3000000) (g:n<=10000000):ni (aN z,(n:Z),())=Y (aN (z*2^n),()):=by obtain⟨c,e,f⟩:=hI a;unfold ni;dsimp only;refine bO.1 ?_;refine ae.bs (r9 a) ?_;dsimp only;rw[aZ (aF (aa:(n:Z)>=0))];refine ae.aJ (KR c aa (n:=n) aa) ?_;rintro _ ⟨h,rfl,d,b,i⟩;rw[hW] at b;refine ae.bs (qS d (by grind) b) (bu.2 ?_);dsimp only;congr 2;show(if br (z<0)=bq then _ else _)=_;grind
theorem aeQ (j:aO b.natAbs<=2900000) (q:a<=10000000) (r:0<a):ni (aN b,-(a:Z),())=Y (aN (b/2^a),()):=by
 obtain⟨f,o,p⟩:=hI (z:=b) aa;have i:=j5 a;unfold ni;dsimp only;refine bO.1 ?_;refine ae.bs (r9 aa) ?_;dsimp only;have ao:ax (0- -(a:Z))=(a:Z):=(by grind [bh]);rw[aW (aA (aa:¬(-(a:Z)>=0))),ao];refine ae.aJ (KS f aa (n:=a) aa) ?_;rintro _ ⟨u,rfl,k,e,v⟩;rw[hW] at e|-;dsimp only;refine ae.bs (qS k aa e) ?_;dsimp only;have l:(aN b).1=br (b<0):=rfl;rw[l];have s:0<=(b.natAbs:Z)/2^a:=ak2 aa aa;have t:(b.natAbs:Z)/2^a<=b.natAbs:=amz _ aa;have c:=Qb (m:=b.natAbs) i aa;refine ae.bs (y:=((bp,([],())),aN (b/2^a),())) ?_ (bu.2 bn);by_cases g:b<0
 ·rw[aF g];rw[(aa:-(b.natAbs:Z)=b)] at c;by_cases d:(b.natAbs:Z) %2^a=0
  ·grind
  rw[aF (show(b.natAbs:Z) %2^a≠0 from d)];refine ai bn ?_;dsimp only[bG];rw[cc d] at c;refine ai (F9 ab ab) ?_;dsimp only;have h:aO (-((b.natAbs:Z)/2^a)).natAbs<=3000000:=(by rw[fW];have:=fW.1 j;omega);rw[b8 bn];refine ai (Si h ab) ?_;grind
 grind
def Hz (b:aO c<=a) (d:aO j<=a):aO (c+j)<=a+1:=by rw[fW,uG];have:=fW.1 b;have:=fW.1 d;omega
def aeq {x y:Z} (o:aO x.natAbs<=3000000) (j:aO y.natAbs<=3000000) (F:0<=x) (c:y≠0):vi (aN x,aN y,())=Y (aN (x/y),aN (x %y),()):=by
 obtain⟨m,p,q⟩:=hI o;obtain⟨n,r,s⟩:=hI j;have w:(aN y).2.1≠[]:=λt=>c (vw.1 t);unfold vi;refine ai (r9 o) (ai (r9 j) ?_);dsimp only;refine ai (RP m n p r aa aa w) ?_;rw[hW,hW];have A:(aN x).1=bp:=aA aa;have C:(aN y).1=br (y<0):=rfl;rw[A,C];have f:0<=(x.natAbs:Z)/(y.natAbs:Z):=ak2 aa aa;have g:(x.natAbs:Z)/(y.natAbs:Z)<=x.natAbs:=amz _ aa;have h:0<=(x.natAbs:Z) %(y.natAbs:Z):=amv _ aa;have i:(x.natAbs:Z) %(y.natAbs:Z)<(y.natAbs:Z):=amt _ aa;have d:∀a:Z,a<=x.natAbs->(eW a.toNat).length<=100000:=λa k=>yX (l:=(aN x).2.1) m q (by rw[hW];exact k);have e:∀a:Z,a<=y.natAbs->(eW a.toNat).length<=100000:=λa k=>yX (l:=(aN y).2.1) n s (by rw[hW];exact k);dsimp only;refine ai (qS (nj _) (by have:=d _ g;omega) (rK f)) (ai (qS (nj _) (by have:=e _ (akj i);omega) (rK h)) ?_);dsimp only;rw[cc (ac:¬(bp=bq))];have ao:(x.natAbs:Z)=x:=aa;rw[ao] at*;have u:x %(y.natAbs:Z)=x %y:=by
  rcases ih y 0 with b|b
  ·rw[(aa:(y.natAbs:Z)=-y),apj]
  rw[(aa:(y.natAbs:Z)=y)]
 rw[u] at*;have D:0<=x %y:=oj _ c;have E:x %y<y.natAbs:=Int.emod_lt x c;have z:aO (x %y).natAbs<=3000000:=(by clear f g h i d e;generalize x %y=B at*;exact c4 (kK aa) j);have v:(if(!(bp==br (y<0)))=bq then-(x/(y.natAbs:Z)) else x/(y.natAbs:Z))=x/y:=by
  rcases ih y 0 with b|b
  ·rw[aF b,(aa:(y.natAbs:Z)=-y),apk];simp
  rw[aA (aa:¬y<0),(aa:(y.natAbs:Z)=y)];simp
 rw[v];refine ai (y:=((bp,([],())),(bp,([],())),aN (x/y),aN (x %y),())) ?_ bn;refine ai (j6 z) ?_;dsimp only;rw[aW (aA ?_)];clear f g h i d e;generalize x %y=B at*;unfold fv;split;omega;split<;>omega
def R3 {z:Z} {n:X} (c:aO z.natAbs<=3000000) (e:n<=10000000):Ak (aN z,(n:Z),())=Y (br ((z.natAbs:Z) %2^n≠0),()):=by obtain⟨a,b,d⟩:=hI c;unfold Ak;dsimp only;refine bO.1 ?_;refine ae.bs (ub a b aa) ?_;dsimp only;refine ae.aJ (KS a aa (n:=n) aa) ?_;rintro _ ⟨f,rfl,g,h,i⟩;rw[hW];exact bu.2 bn
def aeE {z:Z} (p:0<=z) (d:z<9223372036854775808):D1 (aN z,())=Y (z,bq,()):=by
 have f:aO z.natAbs<=64:=fW.2 aa;obtain⟨b,n,o⟩:=hI (z:=z) aa;have q:(aN z).2.1.length<=2:=AK aa;unfold D1;dsimp only;refine bO.1 ?_;refine ae.bs (r9 aa) ?_;dsimp only;rw[aW (aA (show¬(al (aN z).2.1>2) by simp only[a7];omega))];refine ae.aJ (P:=λl=>l=(z,aN z,())) ?_ ?_
 ·have k:=hW z;refine ae.steps (aN z).2.1.length (λa m=>m=(ag ((aN z).2.1.take a),(a:Z),aN z,())) rfl ?_ ?_
  ·rintro a _ c rfl;have h:=b.get c;dsimp only;rw[aZ (aF (show(a:Z)<al (aN z).2.1 by simp only[a7];omega)),eR c,bK];have d:=fd (b.take a);have e:=hd (b.take a);rw[akv,alu aa,q7] at e;have ao:ax (32*(a:Z))=((32*a:X):Z):=(by rw[bh aa aa];simp);have f:(2:Z)^(32*a)<=4294967296:=by
    rcases(aa:a=0\/a=1) with rfl|rfl<;>decide
   have j:=j5 (32*a);have r:(aN z).2.1[a]*2^(32*a)<4294967296*4294967296:=(by have:=jA f h.1;omega);have g:0<=(aN z).2.1[a]*2^(32*a):=lx h.1 (fm j);rw[ao,fE (x:=(aN z).2.1[a]) aa aa,n8 aa aa,aE,fU,ss g aa,nr (32*a) d e g aa aa (ana _ _),bc aa];refine bu.2 ?_;show(_,_,aN z,())=(_,_,aN z,());rw[iH c,q7,jP (2^(32*a))]
  rintro _ rfl;dsimp only;rw[aW (aA (show¬(((aN z).2.1.length:Z)<al (aN z).2.1) by simp only[a7];omega)),cl (cd _),k];refine bu.2 ?_;show(((z.natAbs:X):Z),aN z,())=_;rw[(aa:((z.natAbs:X):Z)=z)]
 rintro _ rfl;have i:(aN z).1=bp:=aA aa;dsimp only;rw[i,bP,aW (aA (aa:¬(z>9223372036854775807))),bh aa aa];exact bu.2 bn
theorem SI (h:aO e.natAbs<=1900000) (f:-1048576<=b) (g:b<=1048576):rC (aN e,b,())=Y (aN (pM e b),0,()):=by
 rcases ih b 0 with d|d
 ·obtain⟨a,c⟩:∃a:X,b=-(a:Z):=⟨(-b).toNat,aa⟩;subst c;grind [afb,yO]
 obtain⟨a,c⟩:∃a:X,b=(a:Z):=⟨b.toNat,aa⟩;grind [afc,ny]
theorem yG (h:aO e.natAbs<=2900000) (f:-10000000<=b) (g:b<=10000000):ni (aN e,b,())=Y (aN (pM e b),()):=by
 rcases ih b 0 with d|d
 ·obtain⟨a,c⟩:∃a:X,b=-(a:Z):=⟨(-b).toNat,aa⟩;subst c;grind [aeQ,yO]
 obtain⟨a,c⟩:∃a:X,b=(a:Z):=⟨b.toNat,aa⟩;grind [Sh,ny]
def c7 (a:Z):Z:=if a=0 then 0 else fM a
theorem FB:cO 0=0:=rfl
theorem hu (a:Z):aB (Y a)=(bp,aN (cO a),c7 a,()):=by
 by_cases b:a=0
 ·subst b;rfl
 rw[N4 b,c7,au b]
theorem ki (a:gb b):aO (cO b).natAbs<=131072:=by
 by_cases c:b=0
 ·subst c;exact a
 grind [aac,gb]
theorem kB (a:gb b):-65536<=c7 b/\c7 b<=65536:=by grind [wz,gb,fM,c7]
theorem Fv (c:gb b):g7 (cO b) (c7 b)=Y b:=by
 by_cases a:b=0
 ·subst a;rfl
 rw[c7,au a,ZC c]
theorem aad (c:b=0\/e<=fM b) (g:-65536<=e):cO b*2^(c7 b-e).toNat*2^(e+65536).toNat=b:=by
 by_cases a:b=0
 ·grind [FB]
 have d:=qM b;have f:=c.resolve_left a;rw[c7,au a,jz,<-ly];grind [fM,cV]
theorem N3 (z:b≠0) (v:¬(e+cV b.natAbs< -65536\/65536<e+aO b.natAbs)):aB (g7 b e)=(bp,aN (b/2^cV b.natAbs),e+cV b.natAbs,())/\(g7 b e).isSome=bq:=by
 obtain⟨c,s⟩:∃c,c=pM b (e+65536):=⟨_,bn⟩;have r:g7 b e=Y c:=(by simp_all [au,g7]);rw[r];refine⟨?_,bn⟩;obtain⟨h,y⟩:=uh (n:=b.natAbs) aa;have o:=(tB (n:=b.natAbs) (k:=cV b.natAbs) aa).1 (bd _);have q:b/2^cV b.natAbs*2^cV b.natAbs=b:=EC o;have A:(b/2^cV b.natAbs).natAbs=2*h+1:=(by grind [an9,alQ,Bi]);generalize x:cV b.natAbs=d at*;generalize w:b/2^d=j at*;have t:c=j*2^(e+d+65536).toNat:=by
  rw[s,<-q];rcases ao3 0 (e+65536) with l|l
  ·obtain⟨a,g⟩:∃a:X,e+65536=a:=⟨(e+65536).toNat,aa⟩;rw[g,ny,jz,<-ly];grind
  obtain⟨a,g⟩:∃a:X,e+65536=-(a:Z):=⟨(-(e+65536)).toNat,aa⟩;obtain⟨i,p⟩:∃i:X,d=i+a:=⟨d-a,aa⟩;rw[g,yO,p,ly,<-jz,Cf _ (by have:=j5 a;omega)];grind
 obtain⟨f,m⟩:∃f:X,e+d+65536=f:=⟨(e+d+65536).toNat,aa⟩;rw[m,fU] at t;have u:c.natAbs=(2*h+1)*2^f:=(by grind [kz]);have B:cV c.natAbs=f:=yV u;have C:c≠0:=(by grind);grind [Int.mul_ediv_cancel,j5,N4,fM,cO]
theorem R2 {m:Z} {n:X} (e:aO m.natAbs<=1900000) (f:n<=1048576):zO (aN m,(n:Z),())=Y (aN (m/2^n),()):=by
 unfold zO;dsimp only;refine bO.1 ?_;refine ae.aJ (P:=λc=>c=((n:Z),aN m,(bp,([],())),())) ?_ ?_
 ·refine ae.steps 0 (λb a=>a=((n:Z),aN m,(bp,([],())),())) rfl (λb a d=>by omega) ?_;rintro _ rfl;dsimp only;rw[aW (aA (aa:¬((n:Z)>1048576)))];grind [bu]
 grind [bh,apm,ae.bs,SI,bu,yO]
theorem A4 {m k:Z} (b:aO m.natAbs<=1900000) (c:0<=k) (a:k<=1048576):pg (aN m,k,())=Y (aN (m*2^k.toNat),()):=by unfold pg;refine ai (SI b aa a) ?_;grind [ny,cy]
theorem Qf (p:aO e.natAbs<=900000) (m:-1000000000000<=u) (o:u<=1000000000000):qr ((bp,aN e,u,()),())=Y (aB (g7 e u),(g7 e u).isSome,()):=by
 obtain⟨f,k,l⟩:=hI (z:=e) aa;unfold qr;dsimp only;rw[bP];have d:=Z5 (b:=aN e) f aa;rw[oa] at d;refine ai d ?_;refine ai (ue (jY aa)) ?_;dsimp only;rw[fY,c3];split
 ·rename_i a;have:e=0:=by
   grind [fv]
  subst this;rfl
 rename_i a;have c:e≠0:=(by intro u;subst u;exact a bn);have q:=wz (n:=e.natAbs) aa;refine ai (Tu (jY aa) c) ?_;dsimp only;by_cases i:u+cV e.natAbs< -65536\/65536<u+aO e.natAbs
 ·have j:g7 e u=bo:=(by simp_all [au,aw,g7]);rw[j];refine ai (y:=.inr (aB bo,bp,())) ?_ bn;refine ai (y:=(bq,(bp,((bp,([],())),((0:Z),()))),aN e,())) ?_ bn;refine ai (xg (jY aa)) ?_;grind [aA,aF,bh]
 obtain⟨g,h⟩:=N3 c i;rw[g,h];refine ai (y:=.inl ((bp,((bp,([],())),((0:Z),()))),aN e,())) ?_ ?_
 ·refine ai (y:=(bp,(bp,((bp,([],())),((0:Z),()))),aN e,())) ?_ bn;refine ai (xg (jY aa)) ?_;grind [aA,bh]
 refine ai (R2 aa aa) ?_;grind [bh]
theorem Bj (b:cW k):qr (aB k,())=Y (aB k,k.isSome,()):=by
 cases k with
 |none=>rfl
 |some c=>
  have a:=b c bn;have d:=ki a;have e:=kB a;grind [hu,Qf,Fv]
def Fr (d:aO e.natAbs<=900000) (a:-1000000000000<=b) (c:b<=1000000000000):u3 (aN e,b,())=Y (aB (g7 e b),()):=by unfold u3;exact ai (Qf d a c) rfl
def Ip (a:cW k):xn (aB k,())=Y (aB k,()):=by unfold xn;exact ai (Bj a) rfl
def h1 (a:ez):Z:=fv (a.getD 0)
theorem SG (a:Z):fv (cO a)=fv a:=by
 unfold fv;have:=FA (v:=a);by_cases b:a=0
 ·subst b;rfl
 simp_all [lj,au]
def oE (a:cW k):pf (aB k,())=Y (h1 k,()):=by
 unfold pf;refine ai (Bj a) ?_;cases k with
 |none=>exact ai (ue (z:=0) (jY ab)) rfl
 |some b=>
  have c:=ki (a b bn);rw[hu];refine ai (ue (jY aa)) ?_;show Y (fv (cO b),())=_;rw[SG];rfl
theorem Lo {a b:ez} (c:cW a) (d:cW b):xp (aB a,aB b,())=Y (aB a,aB b,a.isSome&&b.isSome,()):=by unfold xp;refine ai (Bj c) (ai (Bj d) ?_);grind
def cJ (c d:ez):ez:=c.bind λa=>d.bind λb=>g7 (cO a*cO b) (c7 a+c7 b)
def cR (a b:ez):ez:=a.bind λc=>b.bind λd=>oD (c+d)
def dc (a:ez):ez:=a.map λb=>-b
def ru (a:ez):ez:=a.map λb=>(b.natAbs:Z)
theorem nq (b c:ez):cW (cJ b c):=by
 intro d a;unfold cJ at a;cases b with
 |none=>cases a
 |some e=>cases c with
  |none=>cases a
  |some f=>exact JL _ _ d a
theorem qk (b c:ez):cW (cR b c):=by
 intro d a;unfold cR at a;cases b with
 |none=>cases a
 |some e=>cases c with
  |none=>cases a
  |some f=>exact Na _ d a
theorem Qa (b:cW k):cW (dc k):=by
 intro d a;cases k with
 |none=>cases a
 |some c=>cases a;have:=b c bn;grind [alW,gb]
theorem UX (b:cW k):cW (ru k):=by
 intro d a;cases k with
 |none=>cases a
 |some c=>cases a;have:=b c bn;grind [anc,gb]
def qw (a:cW k) (b:cW p):nQ (aB k,aB p,())=Y (aB (cJ k p),()):=by
 unfold nQ;refine ai (Lo a b) ?_;cases k with
 |none=>rfl
 |some c=>
  cases p with
  |none=>rfl
  |some d=>
   have e:=ki (a c bn);have f:=ki (b d bn);have g:=kB (a c bn);have h:=kB (b d bn);rw[hu,hu];refine ai (ZL aa aa) ?_;dsimp only;rw[bh aa aa];refine ai (Fr ?_ aa aa) rfl;rw[Int.natAbs_mul];have:=xi e f;omega
theorem JZ (a:Z):cO (-a)=-cO a:=by have b:=qM a;grind [Int.eq_of_mul_eq_mul_right,Int.neg_mul,j5,alW,qM,cO,cV]
theorem Iz (a:Z):c7 (-a)=c7 a:=by simp_all [au,alW,c7,fM]
theorem aab (a:Z):cO (a.natAbs:Z)=((cO a).natAbs:Z):=by
 have c:=FA (v:=a);rcases ih a 0 with b|b
 ·grind [JZ]
 grind
theorem Xd (a:Z):c7 (a.natAbs:Z)=c7 a:=by grind [Iz,ak1]
def WF (b:cW k):CX (aB k,())=Y (aB (dc k),()):=by
 unfold CX;refine ai (Bj b) ?_;cases k with
 |none=>rfl
 |some a=>
  have c:=ki (b a bn);rw[hu];refine ai (ai (Qc (jY aa)) rfl) ?_;show Y ((bp,aN (-cO a),c7 a,()),())=Y (aB (Y (-a)),());rw[hu,JZ,Iz]
def jq (a b:Z):Z:=cO a*2^(c7 a-b).toNat
theorem wB {v e:Z} (a:v=0\/e<=fM v) (b:-65536<=e):jq v e*2^(e+65536).toNat=v:=aad a b
def wA (a:b=0\/e<=fM b) (f:-65536<=e) (g:gb b):aO (jq b e).natAbs<=131072:=by
 have c:=wB a f;have d:(jq b e).natAbs<=b.natAbs:=by
  conv=>rhs;rw[<-c,kz]
  exact apn _ (j8 _)
 exact c4 (kK d) g
def Pl (c:b=0\/e<=fM b) (h:-65536<=e) (i:e<=65536) (a:gb b) (d:e<=c7 b):pg (aN (cO b),c7 b-e,())=Y (aN (jq b e),()):=by have f:=ki a;have g:=kB a;exact A4 aa aa aa
theorem PS (a:-65536<=b) (c:e=0\/b<=fM e) (d:u=0\/b<=fM u):g7 (jq e b+jq u b) b=oD (e+u):=by grind [ane,wB,Bf]
theorem kP (a:e<=c7 b):b=0\/e<=fM b:=by
 by_cases c:b=0
 ·omega
 simp_all [au,c7]
def Mk (f:gb b) (g:gb e):∃a,a<=c7 b/\a<=c7 e/\-65536<=a/\a<=65536/\zM (aB (Y b),aB (Y e),())=Y (aN (jq b a),aN (jq e a),a,()):=by have h:=kB f;have i:=kB g;refine⟨if c7 e<c7 b then c7 e else c7 b,aa,aa,aa,aa,?_⟩;unfold zM;rw[hu,hu];dsimp only;generalize j:(if c7 e<c7 b then c7 e else c7 b)=a;have ao:a<=c7 b:=aa;have c:a<=c7 e:=aa;have d:-65536<=a:=aa;rw[bh (x:=c7 b-a) aa aa,bh (x:=c7 e-a) aa aa];exact ai (Pl (kP ao) d aa f ao) (ai (Pl (kP c) d aa g c) rfl)
def Ny (e:cW k) (b:cW p):zJ (aB k,aB p,())=Y (aB (cR k p),()):=by
 unfold zJ;refine ai (Lo e b) ?_;cases k with
 |none=>rfl
 |some h=>
  cases p with
  |none=>rfl
  |some i=>
   have f:=e h bn;have g:=b i bn;obtain⟨c,ao,d,a,n,m⟩:=Mk f g;have j:=wA (kP ao) a f;have l:=wA (kP d) a g;refine ai m (ai (Mi aa aa) ?_);have b:aO (jq h c+jq i c).natAbs<=131073:=c4 (kK (aoe _ _)) (Hz j l);refine ai (Fr aa aa aa) ?_;rw[PS a (kP ao) (kP d)];rfl
def Iq (b:cW k) (a:cW p):xo (aB k,aB p,())=Y (aB (cR k (dc p)),()):=by unfold xo;exact ai (WF a) (ai (Ny b (Qa a)) rfl)
theorem af5 (c:-65536<=b) (h:e=0\/b<=fM e) (i:u=0\/b<=fM u):jq e b<jq u b↔e<u:=by
 have f:=wB h c;have g:=wB i c;have d:=j5 (b+65536).toNat;constructor
 ·intro a;have:=su a d;omega
 intro a;rw[<-f,<-g] at a;exact Int.lt_of_mul_lt_mul_right a (fm d)
theorem NE (d:gb e) (f:gb u):zK (aB (Y e),aB (Y u),())=Y (gd e u,bq,()):=by unfold zK;refine ai (Lo (a:=Y e) (b:=Y u) (λj i=>by grind) (λj i=>by grind)) ?_;obtain⟨m,ao,g,c,n,h⟩:=Mk d f;have k:=wA (kP ao) c d;have l:=wA (kP g) c f;refine ai h (ai (Nh aa aa) ?_);grind [af5,kP,gd]
def iT (a:Z):ez:=g7 a 0
def AH (a:-9223372036854775808<=b) (c:b<=9223372036854775807):rB (b,())=Y (aB (iT b),()):=by unfold rB;have d:aO b.natAbs<=64:=fW.2 aa;exact ai (EX a c) (ai (Fr aa ab ab) rfl)
def iF:ep->Z
 |[]=>0
 |d::a=>d.getD 0+iF a
def lF:ep->bA
 |[]=>bq
 |d::a=>d.isSome&&lF a
def n9 (a:ep):ez:=if lF a=bq then oD (iF a) else bo
theorem afE (b:ep):cW (n9 b):=by
 intro c a;unfold n9 at a;split at a
 ·exact Na _ c a
 grind
theorem afU (a b:ep):iF (a++b)=iF a+iF b:=by
 induction a with
 |nil=>simp[iF]
 |cons d a c=>grind [iF]
theorem U3 (a b:ep):lF (a++b)=(lF a&&lF b):=by
 induction a with
 |nil=>simp[lF]
 |cons d a c=>grind [Bool.and_assoc,lF]
def Th (b:a<w.length):iF (w.take (a+1))=iF (w.take a)+(w[a]).getD 0:=by rw[jT,bi b];show iF (w.take a++[w[a]])=_;rw[afU];simp[iF]
theorem U6 (b:a<w.length):lF (w.take (a+1))=(lF (w.take a)&&(w[a]).isSome):=by grind [U3,akd,bX,lF]
theorem U5 (b:lF w=bq) (d:a<w.length):∃c,w[a]=Y c:=by
 induction w generalizing a with
 |nil=>grind
 |cons f w e=>
  simp only[lF,bk] at b;cases a with
  |zero=>grind [Option.isSome_iff_exists]
  |succ a=>simp_all
theorem U4 (b:a<w.length) (c:w[a]=bo):lF w=bp:=by grind [U5]
theorem kj:(fv b==0)=br (b=0):=by rw[fY,aj8];unfold fv;omega
theorem KK {m:Z} {n:X} (e:aO m.natAbs<=1900000) (f:n<=1048576):xN (aN m,(n:Z),())=Y (aN (m/2^n),()):=by
 unfold xN;dsimp only;refine bO.1 ?_;refine ae.aJ (P:=λc=>c=((n:Z),aN m,(bp,([],())),())) ?_ ?_
 ·refine ae.steps 0 (λb a=>a=((n:Z),aN m,(bp,([],())),())) rfl (λb a d=>by omega) ?_;rintro _ rfl;dsimp only;rw[aW (aA (aa:¬((n:Z)>1048576)))];grind [bu]
 grind [bh,apm,ae.bs,yG,bu,yO]
theorem R4 {b:oc} {m:Z} (d:aR b.2.1) (s:b.2.1.length<=100000000) (h:hm b=m) (E:aO m.natAbs<=900000) (w:-1000000000000<=e) (z:e<=1000000000000):nR (b,e,())=Y (aB (g7 m e),()):=by
 unfold nR;dsimp only;have g:=R8 d s;rw[h] at g;refine ai g ?_;dsimp only;rw[tG,c3];split
 ·rename_i a;have:=vw.1 a;subst this;rfl
 rename_i a;have f:m≠0:=λe=>a (vw.2 e);have F:=wz (n:=m.natAbs) aa;have D:=qn (m:=m.natAbs) aa;rw[c3];split
 ·rename_i i;have c:g7 m e=bo:=(by unfold g7;grind);rw[c];rfl
 rename_i i;refine ai (Sk aa f) (ai (Bx aa) (ai (KK (m:=(m.natAbs:Z)) (by grind) aa) ?_));have r:=(tB (n:=m.natAbs) (k:=cV m.natAbs) aa).1 (cd _);have p:(m.natAbs:Z)/2^cV m.natAbs=(((m/2^cV m.natAbs).natAbs:X):Z):=(by grind [Bi,yv,aof]);have o:aO ((m/2^cV m.natAbs).natAbs)=aO m.natAbs-cV m.natAbs:=(by rw[Bi r,CJ]);rw[p];dsimp only;rw[bh (x:=e+(cV m.natAbs:Z)) aa aa];by_cases q:e+cV m.natAbs< -65536\/65536<e+aO m.natAbs
 ·have c:g7 m e=bo:=(by simp_all [au,aw,g7]);rw[c];refine ai (y:=.inr (aB bo,())) ?_ bn;refine ai (y:=(bq,(bp,((bp,([],())),((0:Z),()))),aN ((m/2^cV m.natAbs).natAbs:Z),())) ?_ bn;by_cases j:e+(cV m.natAbs:Z)< -65536
  ·grind
  rw[aA j];refine ai (KD (by grind)) ?_;rw[anc,o];dsimp only;rw[bh aa aa,aF (aa:e+(cV m.natAbs:Z)+((aO m.natAbs-cV m.natAbs:X):Z)>65536)]
 obtain⟨l,A⟩:=N3 f q;rw[l];refine ai (y:=.inl ((bp,((bp,([],())),((0:Z),()))),aN ((m/2^cV m.natAbs).natAbs:Z),())) ?_ ?_
 ·refine ai (y:=(bp,(bp,((bp,([],())),((0:Z),()))),aN ((m/2^cV m.natAbs).natAbs:Z),())) ?_ bn;rw[aA (aa:¬(e+(cV m.natAbs:Z)< -65536))];refine ai (KD (by grind)) ?_;grind [bh,aA,anc]
 dsimp only;congr 3;have t:b.1=br (m/2^cV m.natAbs<0):=(by have B:(m/2^cV m.natAbs<0)↔m<0:=FA (v:=m);have C:b.1=br (m<0):=(by have u:=fd d;unfold hm at h;grind);grind);rw[t];rfl
def tY {e:Z} (d:aO b.natAbs<=900000) (a:-1000000000000<=e) (c:e<=1000000000000):nR (aN b,e,())=Y (aB (g7 b e),()):=
 R4 (mK b) (by have:=(hI (z:=b) aa).2.2;omega) (oa b) d a c
def oS {d:ez} (c:cW d):mJ (aB d,())=Y (aB d,()):=by
 cases d with
 |none=>rfl
 |some b=>
  have a:=c b bn;have f:=ki a;have g:=kB a;unfold mJ;rw[hu];refine ai (tY (e:=c7 b) aa aa aa) ?_;rw[Fv a,hu]
theorem AJ (a:ez):(aB a).1=!a.isSome:=by
 cases a with
 |none=>rfl
 |some b=>rw[hu];rfl
def KL (a:cW k):Ap (aB k,())=Y (h1 k,()):=by
 unfold Ap;refine ai (oS a) ?_;cases k with
 |none=>rfl
 |some b=>
  have c:=ki (a b bn);rw[hu];refine ai (j6 aa) ?_;show Y (fv (cO b),())=_;rw[SG];rfl
theorem aer (b:cW k):D9 (aB k,())=Y (aB (dc k),()):=by
 unfold D9;refine ai (oS b) ?_;cases k with
 |none=>rfl
 |some a=>
  have c:=b a bn;have f:=ki c;have g:=kB c;rw[hu];refine ai (KP aa) (ai (tY (e:=c7 a) (by grind) aa aa) ?_);have d:gb (-a):=(by grind [alW,gb]);rw[<-JZ,<-Iz,Fv d];rfl
theorem aem (b:cW k):D5 (aB k,())=Y (aB (ru k),()):=by
 unfold D5;refine ai (oS b) ?_;cases k with
 |none=>rfl
 |some a=>
  have c:=b a bn;have f:=ki c;have g:=kB c;rw[hu];refine ai (Bx aa) (ai (tY (e:=c7 a) (by grind) aa aa) ?_);have d:gb (a.natAbs:Z):=(by grind [anc,gb]);rw[<-aab,<-Xd,Fv d];rfl
theorem Tv (a:Z):jq 0 a=0:=by unfold jq;rw[FB,om]
theorem yW (a:Z):jq a (c7 a)=cO a:=by grind [jq]
theorem Qj:cO b=0↔b=0:=by
 constructor
 ·grind [lj]
 rintro rfl;rfl
theorem U1 (g:gb b) (h:gb e):∃a,(b=0\/a<=fM b)/\(e=0\/a<=fM e)/\-65536<=a/\a<=65536/\vj (aB (Y b),aB (Y e),())=Y (aN (jq b a),aN (jq e a),a,()):=by
 have k:=kB g;have l:=kB h;have i:=ki g;have j:=ki h;by_cases c:b=0
 ·subst c;refine⟨c7 e,.inl bn,kP (alb _),aa,aa,?_⟩;unfold vj;rw[hu,hu];refine ai (j6 aa) ?_;grind [kj,aF,Tv,yW]
 by_cases d:e=0
 ·subst d;refine⟨c7 b,kP (alb _),.inl bn,aa,aa,?_⟩;unfold vj;rw[hu,hu];refine ai (j6 aa) ?_;dsimp only;rw[kj,aA (lj c)];refine ai (j6 aa) ?_;grind [kj,aF,Tv,yW]
 by_cases f:c7 b>c7 e
 ·refine⟨c7 e,kP aa,kP (alb _),aa,aa,?_⟩;unfold vj;rw[hu,hu];refine ai (j6 aa) ?_;dsimp only;rw[kj,aA (lj c)];refine ai (j6 aa) ?_;dsimp only;rw[kj,aA (lj d),aF f,bh aa aa,yW];refine ai (yG aa aa aa) ?_;grind [ny,jq,c7]
 refine⟨c7 b,kP (alb _),kP aa,aa,aa,?_⟩;unfold vj;rw[hu,hu];refine ai (j6 aa) ?_;dsimp only;rw[kj,aA (lj c)];refine ai (j6 aa) ?_;dsimp only;rw[kj,aA (lj d),aA f,bh (x:=c7 e-c7 b) aa aa,yW];refine ai (yG aa aa aa) ?_;grind [ny,jq,c7]
theorem aen (h:cW k) (f:cW p):D6 (aB k,aB p,())=Y (aB (cR k p),()):=by
 unfold D6;refine ai (oS h) (ai (oS f) ?_);cases k with
 |none=>rfl
 |some a=>
  cases p with
  |none=>dsimp only;rw[hu a];rfl
  |some c=>
   have i:=h a bn;have j:=f c bn;obtain⟨b,ao,g,d,o,n⟩:=U1 i j;have l:=wA ao d i;have m:=wA g d j;refine ai (y:=.inl (aB (Y a),aB (Y c),(bp,((bp,([],())),((0:Z),()))),())) ?_ ?_
   ·grind [AJ]
   dsimp only;refine ai n (ai (By aa aa) ?_);have f:aO (jq a b+jq c b).natAbs<=131073:=cw (kK (aoe _ _)) (Hz l m);refine ai (tY (e:=b) aa aa aa) ?_;rw[PS d ao g];rfl
def aes (b:cW k) (a:cW p):Eb (aB k,aB p,())=Y (aB (cR k (dc p)),()):=by unfold Eb;exact ai (aer a) (ai (aen b (Qa a)) rfl)
def KJ (a:cW k) (b:cW p):xM (aB k,aB p,())=Y (aB (cJ k p),()):=by
 unfold xM;refine ai (oS a) (ai (oS b) ?_);cases k with
 |none=>rfl
 |some c=>
  cases p with
  |none=>dsimp only;rw[hu c];rfl
  |some d=>
   have e:=ki (a c bn);have f:=ki (b d bn);have g:=kB (a c bn);have h:=kB (b d bn);rw[hu,hu];refine ai bn ?_;dsimp only;refine ai (tZ aa aa) ?_;dsimp only;rw[bh aa aa];refine ai (tY ?_ aa aa) rfl;rw[Int.natAbs_mul];have:=xi e f;omega
def KI (a:-9223372036854775808<=b) (c:b<=9223372036854775807):xL (b,())=Y (aB (iT b),()):=by unfold xL;have d:aO b.natAbs<=64:=fW.2 aa;exact ai (F9 a c) (ai (tY aa ab ab) rfl)
def RQ (Q:∀F∈w,cW F) (q:w.length<=1000000):Aq (w.map aB,())=Y (aB (n9 w),()):=by
 unfold Aq;refine bO.1 ?_;dsimp only;have O:∀c:Z,c.natAbs<=w.length*2^131072->aO c.natAbs<=200000:=λc S=>(by refine cw (kK S) ?_;have:aO w.length<=20:=fW.2 aa;have L:aO (2^131072)<=131073:=fW.2 (Rj 131072 131073 ab);have:=xi this L;omega);have z:∀(c a:Z) (d:X),-65536<=a->d<=w.length->(iF (w.take d)).natAbs<=d*2^131072->c*2^(a+65536).toNat=iF (w.take d)->aO c.natAbs<=200000:=λc a d V l j f=>(by refine O c (cw ?_ (Nat.mul_le_mul_right _ l));refine cw ?_ j;rw[<-f,kz];exact apn _ (alQ _));refine ae.aJ (P:=λi=>match i with
  |.inl n=>∃a c,n=(a,(bp,((bp,([],())),((0:Z),()))),aN c,())/\lF w=bq/\-65536<=a/\a<=65536/\c*2^(a+65536).toNat=iF w/\aO c.natAbs<=200000
  |.inr n=>n=(aB (n9 w),())) ?_ ?_
 ·refine ae.steps w.length (λd T=>∃a c,T=(a,(d:Z),(bp,((bp,([],())),((0:Z),()))),aN c,())/\lF (w.take d)=bq/\-65536<=a/\a<=65536/\c*2^(a+65536).toNat=iF (w.take d)/\(iF (w.take d)).natAbs<=d*2^131072) ⟨0,0,bn,bn,ab,ab,by rw[om];simp[iF],(eU _:(0:X)<=_)⟩ ?_ ?_
  ·rintro d _ l ⟨a,c,rfl,j,f,p,g,o⟩;have u:=Q w[d] (b3 l);have D:=z c a d f aa o g;dsimp only;rw[aZ (aF (show(d:Z)<al (w.map aB) by simp only[a7,cg];omega))];refine ae.aJ (P:=λi=>match i with
    |.inl n=>∃b a c,w[d]=Y b/\n=(a,(bp,((bp,([],())),((0:Z),()))),aN c,())/\-65536<=a/\a<=65536/\c*2^(a+65536).toNat=iF (w.take d)+b
    |.inr n=>n=.inr (.inr (aB (n9 w),()))) ?_ ?_
   ·refine ae.bs (y:=aB w[d]) ?_ (ae.bs (oS u) ?_)
    ·rw[eR (by simpa using l),m6]
    dsimp only;cases A:w[d] with
    |none=>
     refine ae.bs bn (bu.2 ?_);show _=Sum.inr (Sum.inr (aB (n9 w),()));rw[n9,au]
     ·rfl
     rw[U4 l A];simp
    |some b=>
     have r:gb b:=u b A;have ap:=kB r;have am:=ki r;rw[hu];refine ae.bs (j6 aa) ?_;dsimp only;rw[kj];by_cases E:b=0
     ·subst E;rw[aF (show cO 0=0 from rfl)];exact bu.2 ⟨0,a,c,bn,bn,f,p,by rw[g];omega⟩
     rw[aA (lj E)];refine ae.bs (j6 aa) ?_;dsimp only;rw[kj];by_cases C:c=0
     ·subst C;rw[aF bn];refine bu.2 ⟨b,c7 b,cO b,bn,bn,aa,aa,?_⟩;have:=wB (v:=b) (e:=c7 b) (kP (alb _)) aa;rw[yW] at this;rw[this,<-g];simp
     rw[aA C];by_cases s:c7 b>=a
     ·rw[aF s,bh aa aa];refine ae.bs (yG aa aa aa) ?_;have R:pM (cO b) (c7 b-a)=jq b a:=by
       obtain⟨m,q⟩:∃m:X,c7 b-a=m:=⟨(c7 b-a).toNat,aa⟩;rw[q,ny,jq,q];rfl
      have an:=wA (kP s) f r;rw[R];refine ae.bs (By aa aa) (bu.2 ⟨b,a,c+jq b a,bn,bn,f,p,?_⟩);rw[ane,g,wB (kP s) f]
     rw[aA s,bh (x:=a-c7 b) aa aa];obtain⟨m,q⟩:∃m:X,a-c7 b=m:=⟨(a-c7 b).toNat,aa⟩;have B:c*2^m*2^(c7 b+65536).toNat=iF (w.take d):=(by rw[<-g,jz,<-ly];congr 2;omega);have ad:=z (c*2^m) (c7 b) d aa aa o B;rw[q];refine ae.bs (yG aa aa aa) ?_;rw[ny];refine ae.bs (By aa aa) (bu.2 ⟨b,c7 b,c*2^m+cO b,bn,bn,aa,aa,?_⟩);have:=wB (v:=b) (e:=c7 b) (kP (alb _)) aa;rw[yW] at this;rw[ane,B,this]
   rintro(i|i) h
   ·obtain⟨b,G,U,t,rfl,H,I,J⟩:=h;have r:gb b:=u b t;refine bu.2 ⟨G,U,by rw[bc aa],by rw[U6 l,j,t];rfl,H,I,by rw[Th l,t];exact J,?_⟩;rw[Th l,t];have M:=aoe (iF (w.take d)) b;have N:b.natAbs<2^131072:=(fW (k:=131072)).1 r;show(iF (w.take d)+b).natAbs<=_;have K:=ZM o N;exact c4 M K
   have h:i=_:=h;rw[h];exact bu.2 bn
  rintro _ ⟨a,c,rfl,j,f,p,g,o⟩;dsimp only;rw[aW (aA (show¬((w.length:Z)<al (w.map aB)) by simp only[a7,cg];omega))];have D:=z c a w.length f (cd _) o g;rw[cl (cd _)] at j g;exact bu.2 ⟨a,c,bn,j,f,p,g,D⟩
 rintro(i|i) h
 ·obtain⟨a,c,rfl,j,f,p,g,o⟩:=h;refine ae.bs (tY aa aa aa) (bu.2 ?_);show(aB (g7 c a),())=_;rw[Bf f g.symm,n9,aw j]
 have h:i=_:=h;rw[h];exact bu.2 bn
def cE (a:Z):Z:=a/4503599627370496 %2048
def gE (a:Z):Z:=a %4503599627370496
def e3 (a:Z):Prop:=0<=a/\a<18446744073709551616
def aX (a:Z):ez:=
 if cE a=2047 then bo
 else g7 (if a<9223372036854775808 then if cE a=0 then gE a else gE a+4503599627370496 else-(if cE a=0 then gE a else gE a+4503599627370496)) (if cE a=0 then-1074 else cE a-1075)
theorem iC (b:Z):cW (aX b):=by
 intro c a;unfold aX at a;split at a
 ·cases a
 exact JL _ _ c a
def Ks (a:e3 b):xu (b,())=Y (cE b,gE b,()):=by unfold xu;dsimp only;have c:=a.1;have d:=a.2;rw[ud ab ab,bK,show(2:Z)^(52:Z).toNat=4503599627370496 from rfl,sP 11 aa aa 2047 ab ab,sP 52 aa aa 4503599627370495 ab ab,bh aa aa];rfl
theorem MP (g:e3 b):(e0 bD b 9223372036854775808 !=0)=br (9223372036854775808<=b):=by
 obtain⟨c,j⟩:=g;obtain⟨a,rfl⟩:=gh c;have f:a<18446744073709551616:=aa;have d:(9223372036854775808:Z)=((2^63:X):Z):=rfl;rw[d,Mp f ab,fL];rcases cT a (2^63) with e|e
 ·have h:a&&&2^63=0:=by
   refine ao5 λk=>?_;rw[ao6,anY,Nat.zero_testBit];grind
  grind
 have h:a&&&2^63≠0:=(by intro i;have c:(a&&&2^63).testBit 63=bp:=(by grind);grind);grind
theorem ZR (a:e3 b):C4 (b,())=Y (br (9223372036854775808<=b),()):=by grind [MP,C4]
theorem Fb (a:e3 b):ph (b,())=Y (!br (cE b=2047),()):=by simp_all [fL,ai,Ks,ph]
def oL (a:Z):Z:=if cE a=2047 then if gE a=0 then 2 else 3 else if cE a=0/\gE a=0 then 0 else 1
theorem YF (a:e3 b):C1 (b,())=Y (oL b,()):=by unfold C1 oL;refine ai (Ks a) ?_;grind
theorem xS (a:Z):0<=gE a/\gE a<4503599627370496:=by grind [gE]
theorem AM (a:Z):0<=cE a/\cE a<2048:=by grind [cE]
theorem r3 (g:e3 b):k4 (b,())=Y (aB (aX b),()):=by
 unfold k4 aX;have o:=xS b;have n:=AM b;refine ai (Ks g) ?_;dsimp only;rw[fY,fY];by_cases e:cE b=2047
 ·rw[aF e,aw e];rfl
 rw[aA e,au e];obtain⟨a,d,h,i,j,k,l,f⟩:∃a d,(bif br (cE b=0) then some (Sum.inl ((-1074:Z),gE b,((false,((false,([],())),((0:Z),()))):fa),())) else some (.inl (ax (cE b-1075),gv bD (gE b) 4503599627370496,(false,((false,([],())),((0:Z),()))),())):bv ((Z×Z×fa×bt)⊕gJ))=some (.inl (d,a,(false,((false,([],())),((0:Z),()))),()))/\0<=a/\a<9007199254740992/\-1074<=d/\d<=972/\(a=(if cE b=0 then gE b else gE b+4503599627370496)/\d=(if cE b=0 then-1074 else cE b-1075)):=by
  by_cases c:cE b=0
  ·refine⟨gE b,-1074,?_,aa,aa,aa,aa,by rw[aw c],by rw[aw c]⟩;grind
  refine⟨gE b+4503599627370496,cE b-1075,?_,aa,aa,aa,aa,by rw[au c],by rw[au c]⟩;rw[aA c,bh aa aa,nr 52 aa aa aa aa aa ab];rfl
 rw[<-f.1,<-f.2];refine ai h ?_;dsimp only;rw[bh aa aa];have m:aO a.natAbs<=53:=fW.2 aa;refine ai (EX aa aa) ?_;refine ai (y:=((bp,((bp,([],())),((0:Z),()))),aN (if b<9223372036854775808 then a else-a),())) ?_ ?_
 ·refine ai (ZR g) ?_;dsimp only;by_cases c:b<9223372036854775808
  ·grind
  rw[aF (aa:9223372036854775808<=b),au c];exact ai (Qc (jY aa)) rfl
 dsimp only;refine ai (Fr ?_ aa aa) rfl;grind
def po (d:bA) (a:X) (b:Z) (c:bA):w9:=(d,aN (a:Z),b,c,())
theorem qJ (a:X):(a:Z).natAbs=a:=by omega
theorem Zb (e:aO a<=900000) (c:-10000000<=b) (d:b<=10000000):CZ (po l a b h,())=Y (b+aO a-1,()):=by unfold CZ po;refine ai (xg (jY (by grind))) ?_;grind [bh,qJ]
theorem Wq (o:aO a<=900000) (u:0<a) (B:0<c) (C:c<=10000000):zL (po l a b h,(c:Z),())=Y (aN ((a/2^c:X):Z),mb a c h,br (a %2^c=0)&&!h,()):=by
 unfold zL po;refine ai (xg (jY (by grind))) ?_;rw[qJ];dsimp only;have D:=alQ c;rw[c3];split
 ·rename_i q;have r:a<2^(c-1):=fW.1 aa;obtain⟨d,rfl⟩:∃d,c=d+1:=⟨c-1,aa⟩;simp only[aoc] at r;have ao:a %2^(d+1)=a:=Nat.mod_eq_of_lt aa;have g:a/2^(d+1)=0:=anf aa;rw[ao,g];have i:mb a (d+1) h=-1:=(by unfold mb;omega);rw[i,aA (aa:¬a=0)];rfl
 rename_i q;have w:=amf a (2^c);have E:aO (a/2^c)<=900000:=cw (kK (ang _ _)) o;have F:aO (a %2^c)<=900000:=cw (kK (Nat.mod_le _ _)) o;have s:a/2^c*2^c<=a:=Nat.div_mul_le_self _ _;refine ai (R2 (m:=(a:Z)) (n:=c) (by grind) aa) ?_;have ao:(a:Z)/2^c=((a/2^c:X):Z):=(by grind);rw[ao];refine ai (A4 (m:=((a/2^c:X):Z)) (k:=(c:Z)) (by grind) aa aa) ?_;have g:((a/2^c:X):Z)*2^(c:Z).toNat=((a/2^c*2^c:X):Z):=(by grind);rw[g];refine ai (afC (x:=(a:Z)) (y:=((a/2^c*2^c:X):Z)) (by grind) (by rw[qJ];exact cw (kK s) aa)) ?_;have i:(a:Z)-((a/2^c*2^c:X):Z)=((a %2^c:X):Z):=(by grind);rw[i];refine ai (EX (n:=1) ab ab) ?_;dsimp only;rw[bh (x:=(c:Z)-1) aa aa];refine ai (A4 (m:=1) (k:=(c:Z)-1) ab aa aa) ?_;obtain⟨d,rfl⟩:∃d,c=d+1:=⟨c-1,aa⟩;have p:(1:Z)*2^(((d+1:X):Z)-1).toNat=((2^d:X):Z):=(by grind);rw[p];have A:aO (2^d)<=900000:=(by have:aO (2^d)<=d+1:=fW.2 (ao1 ab aa);omega);refine ai (Nh (x:=((a %2^(d+1):X):Z)) (y:=((2^d:X):Z)) (by grind) (by grind)) ?_;dsimp only;have v:(if gd ((a %2^(d+1):X):Z) ((2^d:X):Z)=0/\h=bq then 1 else gd ((a %2^(d+1):X):Z) ((2^d:X):Z))=mb a (d+1) h:=by
  unfold mb gd;have t:2^(d+1)=2*2^d:=aa;generalize a %2^(d+1)=f at*;rw[t];generalize 2^d=e at*;rcases sG f e with j|j|j
  ·rw[aw (aa:(f:Z)<(e:Z)),au ac,aw aa]
  ·grind
  rw[au (aa:¬((f:Z)<(e:Z))),aw (aa:(e:Z)<(f:Z)),au ac,au aa,aw aa]
 refine ai (y:=(mb a (d+1) h,aN ((a/2^(d+1):X):Z),aN ((a %2^(d+1):X):Z),())) ?_ ?_
 ·grind
 refine ai (ue (z:=((a %2^(d+1):X):Z)) (jY (by grind))) ?_;grind [aA,aF,kj]
theorem Bl {n:X}:(n≠0/\cV n=0)↔n %2=1:=by
 constructor
 ·rintro⟨b,c⟩;have:=tB (n:=n) (k:=1) aa;omega
 intro a;refine⟨aa,?_⟩;have:=tB (n:=n) (k:=1) aa;omega
theorem ZN (m:aO a<=900000) (w:0<a) (G:-1000000<=b-e) (H:b-e<=1000000):C0 (po l a b h,e,u,())=Y (aN (if l then-((if e<=b then a*2^(b-e).toNat else jG l a (e-b).toNat h u:X):Z) else((if e<=b then a*2^(b-e).toNat else jG l a (e-b).toNat h u:X):Z)),()):=by
 unfold C0;have k:∀d:X,aO d<=2000000->(bB (α:=l8) (
  bif l then
 (s5 (aN (d:Z),())).bind λ(E,_)=>
 Y (((bp,([],())):eY),E,()) else
 Y ((bp,([],())),aN (d:Z),())) λ(_,D,_)=>
 Y (D,()))=Y (aN (if l then-(d:Z) else(d:Z)),()):=λd J=>by
  cases l
  ·rfl
  refine ai (y:=((bp,([],())),aN (-(d:Z)),())) ?_ bn;have I:Fit (d:Z)\/True:=.inr trivial;have o:=hI (z:=(d:Z)) (by grind);refine ai (y:=(aN (-(d:Z)),())) ?_ bn;unfold s5;refine ai (zG (by have:=o.2.2;omega)) (ai (xe (mK _) (by have:=o.2.2;omega)) ?_);grind [oa,GC]
 by_cases i:e<=b
 ·rw[aw i];obtain⟨c,f⟩:∃c:X,b-e=c:=⟨(b-e).toNat,aa⟩;rw[f,fU];refine ai (y:=((-1:Z),bq,(bp,([],())),aN ((a*2^c:X):Z),())) ?_ ?_
  ·show(bif br (e<=b) then _ else _)=_;rw[aF i];refine ai (y:=(aN ((a*2^c:X):Z),())) ?_ bn;show pg (aN (a:Z),ax (b-e),())=_;rw[bh aa aa,A4 (by grind [qJ]) aa aa,f,fU,sv,yv]
  refine ai bn (ai bn ?_);exact k _ (c4 HA aa)
 rw[au i];obtain⟨c,f⟩:∃c:X,e-b=c:=⟨(e-b).toNat,aa⟩;rw[f,fU];refine ai (y:=(mb a c h,br (a %2^c=0)&&!h,(bp,([],())),aN ((a/2^c:X):Z),())) ?_ ?_
 ·show(bif br (e<=b) then _ else _)=_;rw[aA i];refine ai (y:=(aN ((a/2^c:X):Z),mb a c h,br (a %2^c=0)&&!h,())) ?_ bn;show zL (po l a b h,ax (e-b),())=_;rw[bh aa aa,f];exact Wq m w aa aa
 have A:aO (a/2^c)<=900000:=c4 (kK (ang _ _)) m;refine ai (y:=(!(br (a %2^c=0)&&!h)&&wC l (mb a c h) (br (a/2^c %2=1)) u,(bp,([],())),aN ((a/2^c:X):Z),())) ?_ ?_
 ·dsimp only;cases q:(br (a %2^c=0)&&!h) with
  |true=>rfl
  |false=>
   show(bif u==1 then Y (l,_,_,()) else _)=_;unfold wC;rw[fY,fY,fY];by_cases r:u=1
   ·grind
   rw[aA r,au r];by_cases j:u=2
   ·rw[aF j,aw j];rfl
   rw[aA j,au j];by_cases s:u=3
   ·grind
   rw[aA s,au s];generalize mb a c h=g;show(bif br (g>0)==bp then _ else _)=_;by_cases v:g>0
   ·grind
   rw[aA v];show(bif (g==0)==bq then _ else _)=_;rw[fY];by_cases t:g=0
   ·rw[aF t];refine ai (ue (z:=((a/2^c:X):Z)) (jY (by grind [qJ]))) ?_;dsimp only;have K:=Bl (n:=a/2^c);rw[fL];by_cases F:a/2^c=0
    ·rw[aF (show fv ((a/2^c:X):Z)=0 by rw[F];rfl),aA (aa:¬(a/2^c %2=1))];rfl
    have B:fv ((a/2^c:X):Z)≠0:=(by unfold fv;omega);rw[aA B];refine ai (Tu (z:=((a/2^c:X):Z)) (jY (by grind [qJ])) aa) ?_;rw[qJ];simp_all [aA,aF,fY,cV]
   grind
 dsimp only;refine ai (y:=((bp,([],())),aN ((jG l a c h u:X):Z),())) ?_ ?_
 ·unfold jG;by_cases q:a %2^c=0/\h=bp
  ·simp_all
  have C:(br (a %2^c=0)&&!h)=bp:=(by grind);rw[au q,C];by_cases p:wC l (mb a c h) (br (a/2^c %2=1)) u=bq
  ·rw[aw p,p];refine ai (EX (n:=1) ab ab) ?_;refine ai (Mi (x:=((a/2^c:X):Z)) (y:=1) (by grind [qJ]) ab) ?_;rfl
  simp_all
 refine k _ ?_;have:jG l a c h u<=a/2^c+1:=(by unfold jG;grind);exact c4 (kK this) (c4 (Hz A (ab:aO 1<=900000)) aa)
def BR (a:0<=b) (c:b<9223372036854775808):u4 (b,h,())=Y (mX h b,()):=by
 unfold u4 mX;cases h
 ·rfl
 dsimp only;rw[nr 63 a (by exact c) ab aa ab ab,am7];rfl
theorem Ri:C5 (h,b,())=Y (r5 h b,()):=by
 unfold C5 r5;dsimp only;refine ai (y:=if(b=3\/(b=1/\h=bp)\/(b=2/\h=bq)) then .inr (mX h 9218868437227405311,()) else .inl ()) ?_ ?_
 ·refine ai (y:=(br (b=3\/(b=1/\h=bp)\/(b=2/\h=bq)),())) ?_ ?_
  ·rw[fY,fY,fY];by_cases e:b=3
   ·grind
   by_cases c:b=1
   ·grind
   by_cases d:b=2
   ·simp_all
   grind
  dsimp only;by_cases a:(b=3\/(b=1/\h=bp)\/(b=2/\h=bq))
  ·rw[aF a,aw a];exact ai (BR ab ab) rfl
  grind
 by_cases a:(b=3\/(b=1/\h=bp)\/(b=2/\h=bq))
 ·rw[aw a,aw a]
 rw[au a,au a];exact ai (BR ab ab) rfl
theorem Lr {neg vU:bA} {e vT:Z} (d:0<a):(if e2 a e<=e then a*2^(e-e2 a e).toNat else jG neg a (e2 a e-e).toNat vU vT)<=9007199254740992:=by
 have f:=fW.1 (bd (aO a));have h:=qn d;have i:e+aO a-53<=e2 a e:=(by grind [e2]);split
 ·rename_i c;have b:a*2^(e-e2 a e).toNat<2^aO a*2^(e-e2 a e).toNat:=Nat.mul_lt_mul_of_pos_right f (j8 _);rw[<-k2] at b;have g:2^(aO a+(e-e2 a e).toNat)<=2^53:=sI ab aa;omega
 rename_i c;have b:a/2^(e2 a e-e).toNat<2^53:=(by rw[amU (j8 _),<-k2];grind [Nat.lt_of_lt_of_le,Nat.pow_le_pow_right]);grind [jG]
theorem Se (r:aO a<=800000) (i:0<a) (p:-500000<=b) (q:b<=500000):zP (po h a b l,u,())=Y (n3 h a b l u,()):=by
 have s:=qn i;have t:=Lr (neg:=h) (vU:=l) (vT:=u) (e:=b) i;have n:n3 h a b l u=pF h (if e2 a b<=b then a*2^(b-e2 a b).toNat else jG h a (e2 a b-b).toNat l u) (e2 a b) u:=(by grind [n3]);have o:e2 a b=if(-1074:Z)>b+aO a-1-52 then-1074 else b+aO a-1-52:=by grind [e2]
 have w:-1074<=e2 a b:=aa;have A:e2 a b<=1400000:=aa;unfold zP;refine ai (Zb aa aa aa) ?_;dsimp only;rw[bh aa aa,<-o,n];refine ai (ZN aa i ?_ ?_) ?_
 ·omega
 ·omega
 generalize(if e2 a b<=b then a*2^(b-e2 a b).toNat else jG h a (e2 a b-b).toNat l u)=c at*;generalize e2 a b=d at*;have v:aO c<=54:=fW.2 aa;have m:(if h then-(c:Z) else(c:Z)).natAbs=c:=aa;refine ai (Cw (jY (by grind))) ?_;rw[m];refine ai (Yt (z:=(c:Z)) aa aa) ?_;dsimp only;rw[fE (x:=(c:Z)) aa aa,fY];show bB _ _=Y (pF h c d u,());unfold pF;by_cases j:c=9007199254740992
 ·rw[aF (aa:(c:Z)=9007199254740992),au (aa:¬c<4503599627370496),aw j];refine ai (y:=(d+1,4503599627370496,())) ?_ ?_
  ·grind [cu]
  dsimp only;rw[aA (aa:¬((4503599627370496:Z)<4503599627370496)),bh aa aa,bP,c3];split
  ·rename_i g;exact ai Ri bn
  rename_i g;rw[fE aa aa,n8 ab ab,show(2:Z)^(52:Z).toNat=4503599627370496 from rfl,aE];have ao:aK (4503599627370496-4503599627370496)=0:=(by grind [fE]);have f:(d+1+1075)*4503599627370496 %18446744073709551616=(d+1+1075)*4503599627370496:=aa;rw[ao,f,Br,nr 52 ab ab aa ab aa aa,alw];exact ai (BR aa aa) rfl
 rw[aA (aa:¬(c:Z)=9007199254740992)];refine ai (y:=(d,(c:Z),())) rfl ?_;dsimp only;rw[c3];by_cases k:c<4503599627370496
 ·rw[aw (aa:(c:Z)<4503599627370496),aw k];exact ai (BR aa aa) rfl
 rw[au (aa:¬(c:Z)<4503599627370496),au k,au j,bh aa aa,c3];split
 ·rename_i g;exact ai Ri bn
 rename_i g;rw[fE (x:=d+1075) aa aa,n8 ab ab,show(2:Z)^(52:Z).toNat=4503599627370496 from rfl,bK,fE (x:=(c:Z)-4503599627370496) aa aa];have f:(d+1075)*4503599627370496 %18446744073709551616=(d+1075)*4503599627370496:=aa;rw[f,Br,nr 52 aa aa aa aa aa aa];refine ai (BR aa aa) ?_;dsimp only;congr 3;omega
def gS (c d:ez) (e:Z):Z:=match c,d with
 |some a,Y b=>if b=0 then 9221120237041090560 else if a=0 then 0 else yz a b e
 |_,_=>9221120237041090560
def Ga (b:ez) (c:Z):Z:=match b with
 |some a=>if a<0 then 9221120237041090560 else if a=0 then 0 else KQ a c
 |none=>9221120237041090560
def FD (a:Z):(aN (cO a)).1=br (a<0):=by show br (cO a<0)=_;rw[aj8];exact FA
theorem aee (h:gb b) (i:gb e) (z:b≠0) (A:e≠0) (j:Z):∃c d k,CY (aB (Y b),aB (Y e),56,())=Y (po (br (b<0)!=br (e<0)) c d k,())/\0<c/\aO c<=800000/\-500000<=d/\d<=500000/\n3 (br (b<0)!=br (e<0)) c d k j=yz b e j:=by
 have q:=ki h;have r:=ki i;have s:=kB h;have t:=kB i;have n:0<(cO b).natAbs:=(by grind [lj]);have o:0<(cO e).natAbs:=(by grind [lj]);obtain⟨a,p⟩:∃a,a=r7 (cO b).natAbs (cO e).natAbs:=⟨_,bn⟩;have v:a<=131131:=(by grind [r7]);have g:58<=aO ((cO b).natAbs*2^a/(cO e).natAbs):=RH n o (by grind [r7]);have u:aO ((cO b).natAbs*2^a)<=262203:=(by grind [HA]);refine⟨(cO b).natAbs*2^a/(cO e).natAbs,c7 b-a-c7 e,br ((cO b).natAbs*2^a %(cO e).natAbs≠0),?_,?_,?_,aa,aa,?_⟩
 ·unfold CY;rw[hu,hu];refine ai (xg (jY aa)) (ai (xg (jY aa)) (ai (Cw (jY aa)) ?_));dsimp only;have ao:(if ax (ax (ax (56+3)+(aO (cO e).natAbs:Z))-(aO (cO b).natAbs:Z))>0 then ax (ax (ax (56+3)+(aO (cO e).natAbs:Z))-(aO (cO b).natAbs:Z)) else 0)=(a:Z):=by
   grind [bh,r7,aO,cO]
  rw[ao];refine ai (A4 (m:=((cO b).natAbs:Z)) (by grind) aa aa) (ai (Cw (jY aa)) ?_);have l:((cO b).natAbs:Z)*2^(a:Z).toNat=(((cO b).natAbs*2^a:X):Z):=(by grind);rw[l];refine ai (WC (x:=(((cO b).natAbs*2^a:X):Z)) (y:=((cO e).natAbs:Z)) (by grind) (by grind) aa aa) ?_;rw[<-aof,<-aog];have w:aO ((cO b).natAbs*2^a %(cO e).natAbs)<=900000:=cw (kK (Nat.mod_le _ _)) aa;refine ai (ue (jY (by grind))) ?_;dsimp only;rw[bh (x:=c7 b-(a:Z)) aa aa,bh aa aa,FD,FD];grind [kj,aF,aA,fv,cO,decide,po]
 ·rcases rk ((cO b).natAbs*2^a/(cO e).natAbs) with f|f
  ·rw[f] at g;exact absurd g ab
  omega
 ·exact c4 (kK (ang _ _)) aa
 unfold yz FZ;rw[<-p];congr 1;unfold c7;omega
theorem XD (e:cW p) (d:cW k):s3 (aB p,aB k,b,())=Y (gS p k b,()):=by
 unfold s3;refine ai (Ip e) (ai (Ip d) ?_);dsimp only;rw[AJ,AJ];cases p with
 |none=>cases k<;>rfl
 |some c=>
  cases k with
  |none=>rfl
  |some a=>
   by_cases f:a=0
   ·subst f;refine ai (y:=.inr (9221120237041090560,())) ?_ bn;refine ai (y:=(bq,aB (Y c),aB (Y 0),())) ?_ bn;refine ai (oE d) ?_;rfl
   by_cases g:c=0
   ·subst g;refine ai (y:=.inr (0,())) ?_ ?_
    ·refine ai (y:=(bp,aB (Y 0),aB (Y a),())) ?_ ?_
     ·refine ai (oE d) ?_;dsimp only;rw[show h1 (Y a)=fv a from rfl,kj,aA f]
     refine ai (oE e) ?_;rfl
    simp_all [au,gS]
   obtain⟨h,i,r,j,l,m,n,o,q⟩:=aee (e c bn) (d a bn) g f b;refine ai (y:=.inl (aB (Y c),aB (Y a),())) ?_ ?_
   ·refine ai (y:=(bp,aB (Y c),aB (Y a),())) ?_ ?_
    ·refine ai (oE d) ?_;dsimp only;rw[show h1 (Y a)=fv a from rfl,kj,aA f]
    refine ai (oE e) ?_;dsimp only;rw[show h1 (Y c)=fv c from rfl,kj,aA g];rfl
   simp_all [ai,Se,au,gS]
theorem aeS:rF (aN 0,())=Y (0,()):=by
 unfold rF;refine ai (ub (l:=[]) akJ (λf b=>by cases b) ab) ?_;refine bO.1 (ae.aJ (P:=λd=>d=.inl ()) ?_ ?_)
 ·refine ae.steps 0 (λc a=>a=((0:Z),())) rfl (λc a e=>by omega) ?_;grind [bu]
 grind [bu]
theorem R9 {n:X} (c:aO n<=900000):∃a,rF (aN (n:Z),())=Y (a,())/\((a=0/\n≠0)↔n %2=1):=by
 by_cases b:n=0
 ·grind [aeS]
 refine⟨(cV n:Z),?_,?_⟩
 ·grind [qJ,Sk]
 grind [Bl]
theorem agc:Ec (h,b,l,e,())=Y (wC h b l e,()):=by unfold Ec wC;grind
theorem aeg (q:aO a<=800000) (C:c<=1000000):D7 (l,aN (a:Z),(c:Z),h,b,())=Y (aN ((jG l a c h b:X):Z),()):=by
 unfold D7;have f:∀e:X,(a:Z)/2^e=((a/2^e:X):Z):=λe=>(by rw[<-yv,<-aof]);have o:∀e:X,br (((a:Z).natAbs:Z) %2^e≠0)=br (a %2^e≠0):=λe=>(by grind);have E:∀e,aO (a/2^e)<=800000:=λe=>cw (kK (ang _ _)) q;refine ai (KK (m:=(a:Z)) (n:=c) (by grind) aa) ?_;rw[f];refine ai (R3 (z:=(a:Z)) (n:=c) (by grind) aa) ?_;rw[o];dsimp only;by_cases v:a %2^c=0/\h=bp
 ·simp_all [aw,aA,ai,jG,aN]
 refine ai (y:=.inl ((bp,([],())),aN ((a/2^c:X):Z),())) ?_ ?_
 ·grind
 dsimp only;refine ai (y:=(mb a c h,(bp,([],())),aN ((a/2^c:X):Z),())) ?_ ?_
 ·rw[c3];split
  ·rename_i p;obtain⟨d,rfl⟩:∃d,c=d+1:=⟨c-1,aa⟩;have k:ax (((d+1:X):Z)-1)=(d:Z):=(by grind [bh]);rw[k];refine ai (KK (m:=(a:Z)) (n:=d) (by grind) aa) ?_;rw[f];obtain⟨j,g,t⟩:=R9 (n:=a/2^d) (by grind);have r:=ZH a d 1;rw[Nat.pow_one] at r;have B:=Nat.mod_lt a (j8 d);have D:2^(d+1)=2*2^d:=aa;refine ai (y:=(br (a/2^d %2=1),(bp,([],())),aN ((a/2^(d+1):X):Z),())) ?_ ?_
   ·refine ai g ?_;dsimp only;rw[fY];by_cases w:j=0
    ·rw[aF w];refine ai (j6 (z:=((a/2^d:X):Z)) (by grind)) ?_;grind [kj,aF,aA]
    grind
   dsimp only;unfold mb;by_cases s:a/2^d %2=1
   ·rw[aF s];have u:a %2^(d+1)=2^d+a %2^d:=(by grind);rw[u,au aa];cases h
    ·show(bB _ _)=_;refine ai (R3 (z:=(a:Z)) (n:=d) (by grind) aa) ?_;grind
    grind
   grind
  rename_i p;obtain rfl:c=0:=aa;simp_all [aw,Nat.pow_zero,Nat.mod_one,mb]
 dsimp only;obtain⟨j,g,t⟩:=R9 (n:=a/2^c) (by grind);refine ai (y:=(br (a/2^c %2=1),(bp,([],())),aN ((a/2^c:X):Z),())) ?_ ?_
 ·refine ai (j6 (z:=((a/2^c:X):Z)) (by grind)) ?_;dsimp only;have A:(fv ((a/2^c:X):Z)!=0)=br (a/2^c≠0):=by
   grind [aA,aF,kj]
  grind
 dsimp only;refine ai (y:=((bp,([],())),aN ((jG l a c h b:X):Z),())) ?_ bn;refine ai agc ?_;dsimp only;unfold jG;rw[cc v];by_cases i:wC l (mb a c h) (br (a/2^c %2=1)) b=bq
 ·rw[aw i,i];refine ai (F9 (n:=1) ab ab) ?_;refine ai (By (x:=((a/2^c:X):Z)) (y:=1) (by grind) ab) ?_;rfl
 grind
def BI (a:0<=b) (c:b<9223372036854775808):rH (h,b,())=Y (mX h b,()):=by
 unfold rH mX;cases h
 ·rfl
 dsimp only;rw[nr 63 a (by exact c) ab aa ab ab,am7];rfl
theorem Sf:As (h,b,())=Y (r5 h b,()):=by
 unfold As r5;dsimp only;refine ai (y:=if(b=3\/(b=1/\h=bp)\/(b=2/\h=bq)) then .inr (mX h 9218868437227405311,()) else .inl ()) ?_ ?_
 ·refine ai (y:=(br (b=3\/(b=1/\h=bp)\/(b=2/\h=bq)),())) ?_ ?_
  ·rw[fY,fY,fY];by_cases e:b=3
   ·grind
   by_cases c:b=1
   ·grind
   by_cases d:b=2
   ·simp_all
   grind
  dsimp only;by_cases a:(b=3\/(b=1/\h=bp)\/(b=2/\h=bq))
  ·rw[aF a,aw a];exact ai (BI ab ab) rfl
  grind
 by_cases a:(b=3\/(b=1/\h=bp)\/(b=2/\h=bq))
 ·rw[aw a,aw a]
 rw[au a,au a];exact ai (BI ab ab) rfl
theorem af8 {neg vU:bA} {e vT:Z} (c:0<a) (j:-1074<e2 a e):4503599627370496<=(if e2 a e<=e then a*2^(e-e2 a e).toNat else jG neg a (e2 a e-e).toNat vU vT):=by
 obtain⟨f,h⟩:=xh c;have i:=qn c;have k:e2 a e=e+aO a-53:=(by grind [e2]);have g:(2:X)^52=4503599627370496:=ab;split
 ·rename_i d;have b:2^(aO a-1)*2^(e-e2 a e).toNat<=a*2^(e-e2 a e).toNat:=iY _ f;rw[<-k2] at b;grind
 rename_i d;have b:2^52<=a/2^(e2 a e-e).toNat:=(by rw[ao2 (j8 _),<-k2];grind);grind [jG]
theorem aeM (s:aO a<=800000) (j:0<a) (C:-500000<=b) (D:b<=500000) (H:l=bq->54<=aO a):Ef (h,aN (a:Z),b,l,u,())=Y (n3 h a b l u,()):=by
 have E:=qn j;have F:=Lr (neg:=h) (vU:=l) (vT:=u) (e:=b) j;have p:=af8 (neg:=h) (vU:=l) (vT:=u) (e:=b) j;have q:n3 h a b l u=pF h (if e2 a b<=b then a*2^(b-e2 a b).toNat else jG h a (e2 a b-b).toNat l u) (e2 a b) u:=(by grind [n3]);have r:e2 a b=if(-1074:Z)>b+aO a-1-52 then-1074 else b+aO a-1-52:=by grind [e2]
 have I:-1074<=e2 a b:=aa;have J:e2 a b<=1400000:=aa;have w:-1000000<=e2 a b-b:=aa;have A:e2 a b-b<=1000000:=aa;unfold Ef;refine ai (KD (z:=(a:Z)) (by grind)) ?_;rw[qJ];dsimp only;rw[bh (x:=b+(aO a:Z)) aa aa,bh (x:=b+(aO a:Z)-1) aa aa,bh (x:=b+(aO a:Z)-1-52) aa aa,<-r,q,c3];split
 ·rename_i t;have K:972<=e2 a b:=aa;have p:=p aa;refine ai Sf ?_;clear r q w A;generalize(if e2 a b<=b then a*2^(b-e2 a b).toNat else jG h a (e2 a b-b).toNat l u)=d at*;unfold pF;grind
 rename_i t;refine ai (y:=(aN ((if e2 a b<=b then a*2^(b-e2 a b).toNat else jG h a (e2 a b-b).toNat l u:X):Z),())) ?_ ?_
 ·rw[c3];split
  ·rename_i g;obtain⟨f,k⟩:∃f:X,e2 a b-b=f:=⟨(e2 a b-b).toNat,aa⟩;rw[bh (x:=e2 a b-b) aa aa,k,akE];refine ai (aeg s aa) ?_;dsimp only;by_cases B:e2 a b<=b
   ·have v:f=0:=aa;have G:l=bp:=by
     grind
    rw[aw B,v];unfold jG;grind
   grind
  rename_i g;obtain⟨f,k⟩:∃f:X,b-e2 a b=f:=⟨(b-e2 a b).toNat,aa⟩;rw[bh (x:=b-e2 a b) aa aa,aw aa,k,fU];refine ai (Sh (z:=(a:Z)) (n:=f) (by grind) aa) ?_;grind
 generalize(if e2 a b<=b then a*2^(b-e2 a b).toNat else jG h a (e2 a b-b).toNat l u)=d at*;generalize e2 a b=c at*;dsimp only;refine ai (aeE (z:=(d:Z)) aa aa) ?_;dsimp only;rw[fY];unfold pF;by_cases m:d=9007199254740992
 ·rw[aF (aa:(d:Z)=9007199254740992),au (aa:¬d<4503599627370496),aw m];refine ai (y:=(c+1,4503599627370496,())) ?_ ?_
  ·grind [cu]
  dsimp only;rw[bh (x:=c+1+53) aa aa,aF (aa:(4503599627370496:Z)>=4503599627370496)];by_cases g:c+1+1075>=2047
  ·rw[aw g];refine ai (y:=.inr (r5 h u,())) ?_ bn;refine ai (y:=(bq,())) ?_ (ai Sf bn);grind
  rw[au g];refine ai (y:=.inr (mX h ((c+1+1075)*4503599627370496),())) ?_ bn;refine ai (y:=(bp,())) ?_ ?_
  ·grind
  dsimp only;rw[bh (x:=c+1+1075) aa aa,fE (x:=c+1+1075) aa aa,n8 ab ab,show(2:Z)^(52:Z).toNat=4503599627370496 from rfl];have ao:aK (ax (4503599627370496-4503599627370496))=0:=(by grind [bh,fE]);have i:(c+1+1075)*4503599627370496 %18446744073709551616=(c+1+1075)*4503599627370496:=aa;rw[ao,i];show((rH (h,gv bD ((c+1+1075)*4503599627370496) 0,())).bind _)=_;rw[Br,nr 52 ab ab aa ab aa aa,alw];exact ai (BI aa aa) rfl
 rw[aA (aa:¬(d:Z)=9007199254740992)];refine ai (y:=(c,(d:Z),())) rfl ?_;dsimp only;rw[bh (x:=c+53) aa aa];by_cases o:d<4503599627370496
 ·rw[aA (aa:¬((d:Z)>=4503599627370496)),aw o,fE (x:=(d:Z)) aa aa];refine ai (y:=.inl ()) ?_ ?_
  ·grind
  exact ai (BI aa aa) rfl
 rw[aF (aa:((d:Z)>=4503599627370496)),au o,au m];by_cases g:c+1075>=2047
 ·omega
 rw[au g];refine ai (y:=.inr (mX h ((c+1075)*4503599627370496+((d:Z)-4503599627370496)),())) ?_ bn;refine ai (y:=(bp,())) ?_ ?_
 ·grind
 dsimp only;rw[bh (x:=c+1075) aa aa,fE (x:=c+1075) aa aa,n8 ab ab,show(2:Z)^(52:Z).toNat=4503599627370496 from rfl];have ao:aK (ax ((d:Z)-4503599627370496))=(d:Z)-4503599627370496:=(by grind [bh,fE]);have i:(c+1075)*4503599627370496 %18446744073709551616=(c+1075)*4503599627370496:=aa;rw[ao,i];show((rH (h,gv bD ((c+1075)*4503599627370496) ((d:Z)-4503599627370496),())).bind _)=_;rw[Br,nr 52 aa aa aa aa aa aa];refine ai (BI aa aa) ?_;grind
theorem Mn (a:e3 b):eN bD b 52=Y (b/4503599627370496)/\e0 bD (b/4503599627370496) 2047=cE b/\e0 bD b 4503599627370495=gE b:=by
 have c:=a.1;have d:=a.2;refine⟨?_,?_,?_⟩
 ·grind [ud]
 ·rw[sP 11 aa aa 2047 ab ab];rfl
 rw[sP 52 aa aa 4503599627370495 ab ab];rfl
theorem BE (a:e3 b):s9 (b,())=Y (!br (cE b=2047),()):=by simp_all [fL,ai,Mn,s9]
theorem aeF (a:e3 b):Ee (b,())=Y (br (9223372036854775808<=b),()):=by grind [MP,Ee]
theorem ua (g:e3 e):pn (e,())=Y (aB (aX e),()):=by
 obtain⟨i,j,k⟩:=Mn g;have t:=xS e;have s:=AM e;unfold pn aX;refine ai (BE g) ?_;dsimp only;by_cases f:cE e=2047
 ·rw[aF f,aw f];rfl
 rw[aA f,au f,show(!!bp)=bp from rfl,bP,i,aE,j,k,bh (x:=cE e) aa aa];obtain⟨a,c,l,n,o,p,q,h⟩:∃a c,(bif br (cE e>0) then some (gv bD (gE e) 4503599627370496,ax (cE e-1075),((false,((false,([],())),((0:Z),()))):fa),()) else some (gE e,(-1074:Z),(false,((false,([],())),((0:Z),()))),()))=some (a,c,(false,((false,([],())),((0:Z),()))),())/\0<=a/\a<9007199254740992/\-1074<=c/\c<=972/\(a=(if cE e=0 then gE e else gE e+4503599627370496)/\c=(if cE e=0 then-1074 else cE e-1075)):=by
  by_cases d:cE e=0
  ·refine⟨gE e,-1074,?_,aa,aa,aa,aa,by rw[aw d],by rw[aw d]⟩;grind
  refine⟨gE e+4503599627370496,cE e-1075,?_,aa,aa,aa,aa,by rw[au d],by rw[au d]⟩;rw[aF (aa:cE e>0),bh aa aa,nr 52 aa aa aa aa aa ab];rfl
 rw[<-h.1,<-h.2];refine ai l ?_;dsimp only;refine ai (aeF g) ?_;rw[nz,bK];dsimp only;rw[pR a,lq (x:=a/4294967296) aa aa];have r:aO a.natAbs<=53:=fW.2 aa;refine ai (R4 (b:=(br (9223372036854775808<=e),[a %4294967296,a/4294967296],())) (m:=if e<9223372036854775808 then a else-a) (ak3.2 ⟨⟨aa,aa⟩,ak3.2 ⟨⟨aa,aa⟩,akJ⟩⟩) ac ?_ ?_ aa aa) rfl
 ·unfold hm;simp only[ag];grind
 grind
def mm (a:ez) (b:Z):Z:=match a with
 |none=>9221120237041090560
 |some c=>yE c b
theorem Sg (d:cW k):Ar (aB k,b,())=Y (mm k b,()):=by
 unfold Ar;refine ai (oS d) ?_;dsimp only;rw[AJ];cases k with
 |none=>rfl
 |some a=>
  have e:=d a bn;have h:=ki e;have i:=kB e;rw[hu];refine ai (j6 aa) ?_;dsimp only;rw[kj];unfold mm yE;by_cases c:a=0
  ·subst c;rw[aF (show cO 0=0 from rfl)];rfl
  rw[aA (lj c)];simp only;rw[cc c,bP];have g:0<(cO a).natAbs:=(by grind [lj]);refine ai (Bx aa) ?_;dsimp only;rw[FD];refine ai (aeM aa g aa aa (λf=>by cases f)) ?_;simp_all [cc,c7]
theorem x2 (a:Z):cW (iT a):=JL a 0
def aez (a:-9223372036854775808<=b) (c:b<=9223372036854775807):Ed (b,e,())=Y (mm (iT b) e,()):=by unfold Ed;exact ai (KI a c) (ai (Sg (x2 b)) rfl)
def tK (a:Z) (b:X):X:=((a %18446744073709551616) %(b:Z)).toNat
theorem Fy (a:Z) {n:X} (b:0<n):tK a n<n:=by simp_all [pU,oj,tK]
theorem vS (a:Z) {n:X} (c:0<n) (e:n<=9223372036854775807):qu (a,(n:Z),())=Y ((tK a n:Z),()):=by unfold qu;have d:=Fy a c;have b:(a %18446744073709551616) %(n:Z)=(tK a n:Z):=(by unfold tK;have:=amv (a %18446744073709551616) (aa:(n:Z)≠0);omega);dsimp only;rw[sh a,fE (x:=(n:Z)) aa aa,(F1 (x:=a %18446744073709551616) (y:=(n:Z)) ⟨aa,aa⟩ aa).2,b];grind [B1]
theorem agS (a b:Z):e3 (uk bD a b):=by grind [B2,uk,e3]
theorem Ly (e:aj6) (i:e.length<=9223372036854775807) (h:Z):ae (vh (e,h,())) (λb=>e3 b.1):=by
 have f:∀a b:Z,0<=b->∃c,eN bD a b=Y c:=λa b d=>(by unfold eN;simp_all);unfold vh;dsimp only;refine ae.aJ (P:=λ_=>True) ?_ ?_
 ·rw[c3];refine ae.ite (λd=>?_) λd=>bu.2 trivial;simp_all [ae.bs,vS,eR,bu,trivial,Fy,a7]
 rintro⟨a,_⟩ _;dsimp only;obtain⟨c,g⟩:=f a 31 ab;refine ae.bs g ?_;obtain⟨k,j⟩:=f (aK (uk bD a c*13787848793156543929)) 29 ab;grind [ae.bs,bu,agS]
theorem SH (a:0<=b) (c:b<9223372036854775808):e3 (mX h b):=by grind [mX,e3]
theorem adb (b:bA) (a:Z):e3 (r5 b a):=by grind [SH,r5]
theorem adf (c:a<=9007199254740992) (d:-1074<=b):e3 (pF h a b e):=by grind [adb,SH,pF]
theorem R5 (c:0<a):e3 (n3 l a b h u):=by have d:=Lr (neg:=l) (vU:=h) (vT:=u) (e:=b) c;grind [adf,n3,pF,e2,jG]
def JQ:e3 9221120237041090560:=⟨ab,ab⟩
theorem BH (a:ez) (c:Z):e3 (mm a c):=by
 unfold mm;cases a with
 |none=>exact JQ
 |some d=>
  simp only;unfold yE;by_cases b:d=0
  ·rw[aw b];exact⟨ab,ab⟩
  simp_all [au,R5,lj]
theorem FX (i:Z):e3 (gS k p i):=by
 unfold gS;cases k with
 |none=>exact JQ
 |some a=>
  cases p with
  |none=>exact JQ
  |some b=>
   simp only;by_cases c:b=0
   ·rw[aw c];exact⟨ab,ab⟩
   by_cases f:a=0
   ·rw[au c,aw f];exact⟨ab,ab⟩
   rw[au c,au f];unfold yz FZ;have g:0<(cO a).natAbs:=(by grind [lj]);have h:0<(cO b).natAbs:=(by grind [lj]);have e:58<=aO ((cO a).natAbs*2^r7 (cO a).natAbs (cO b).natAbs/(cO b).natAbs):=RH g h (by grind [r7]);refine R5 ?_;rcases rk ((cO a).natAbs*2^r7 (cO a).natAbs (cO b).natAbs/(cO b).natAbs) with d|d
   ·rw[d] at e;exact absurd e ab
   omega
theorem Re (a b:Z):e3 (gv bD a b):=by grind [B2,gv,e3]
theorem Qg (a:e3 b) (c:Z):ae (vg (b,c,())) (λd=>e3 d.1):=by
 have e:=a.1;have f:=a.2;unfold vg;dsimp only;refine ae.bs (vS c (n:=4) ab ab) ?_;dsimp only;rw[fY,fY,fY,c3];refine ae.ite (λ_=>?_) λ_=>?_
 ·grind [bu,Re,ud,n8]
 rw[c3];refine ae.ite (λ_=>?_) λ_=>?_
 ·simp_all [bu,Re,aw,aE,n8,ud,jf]
 rw[c3];refine ae.ite (λ_=>?_) λ_=>?_
 ·refine ae.bs (BE a) ?_;dsimp only;cases br (cE b=2047)
  ·exact bu.2 a
  exact bu.2 ⟨ab,ab⟩
 unfold Ig;refine ae.bs (y:=(mm (iT (b %19-9)) 0,())) ?_ (bu.2 ?_)
 ·refine ai (y:=b %19) ?_ ?_
  ·simp_all [aw,GP,jf]
  dsimp only;rw[bh (x:=b %19) aa aa,bh aa aa];exact ai (aez aa aa) rfl
 grind [BH]
structure gx (rows eL:X) (st iA nB:aj6):Prop where
 len:st.length=eL+1
 first:st.getD 0 0=0
 mono:∀j,j<eL->st.getD j 0<=st.getD (j+1) 0
 last:st.getD eL 0=(iA.length:Z)
 val:nB.length=iA.length
 rng:∀j k:X,j<eL->st.getD j 0<=(k:Z)->(k:Z)<st.getD (j+1) 0->0<=iA.getD k 0/\iA.getD k 0<(rows:Z)
 asc:∀j k:X,j<eL->st.getD j 0<(k:Z)->(k:Z)<st.getD (j+1) 0->iA.getD (k-1) 0<iA.getD k 0
theorem gu {l:aj6} {i:X} (a:i<l.length):ar l (i:Z)=Y (l.getD i 0):=by rw[eR a,j1 a]
theorem afq (o:d.length<=1000000):DO (d,())=Y (open Classical in decide (∀a,a+1<d.length->d.getD a 0<=d.getD (a+1) 0),()):=by
 classical
 unfold DO;dsimp only;refine bO.1 (ae.aJ (P:=λj=>match j with|.inl _=>(∀a,a+1<d.length->d.getD a 0<=d.getD (a+1) 0)|.inr k=>k=(bp,())/\¬(∀a,a+1<d.length->d.getD a 0<=d.getD (a+1) 0)) ?_ ?_)
 ·refine akn (λe=>∃b:X,(e.1=(b:Z)\/(e.1=-1/\b=0))/\b<=d.length/\(b<d.length\/d.length=0)/\(∀a,b<=a->a+1<d.length->d.getD a 0<=d.getD (a+1) 0)) (λe=>e.1.toNat) ⟨d.length-1,?_,aa,aa,λa f h=>by omega⟩ ?_
  ·grind [bh,a7]
  rintro⟨l,_⟩ ⟨b,f,h,m,n⟩;dsimp only at f|-;rw[c3];refine ae.ite (λg=>?_) λg=>?_
  ·obtain rfl:l=(b:Z):=aa;obtain⟨c,rfl⟩:∃c,b=c+1:=⟨b-1,aa⟩;have ao:ax (((c+1:X):Z)-1)=(c:Z):=(by grind [bh]);rw[ao];refine ae.bs (gu aa) (ae.bs (gu aa) ?_);refine ae.bs (y:=(br (d.getD (c+1) 0<d.getD c 0),())) (by simp_all [aoh,bK,u2,s2]) ?_;dsimp only;rw[c3];refine ae.ite (λi=>?_) λi=>?_
   ·grind [bu]
   grind [bu,cn]
  grind [bu]
 grind [akb,bu,akC]
def kD (e:Z) (d b:aj6) (c:X):Prop:=∀a:X,d.getD c 0<=(a:Z)->(a:Z)<d.getD (c+1) 0->(if(a:Z)=d.getD c 0 then-1 else b.getD (a-1) 0)<b.getD a 0/\b.getD a 0<e
theorem kD.pos (h:kD b d f a) (i:0<=d.getD a 0):∀c:X,d.getD a 0<=(c:Z)->(c:Z)<d.getD (a+1) 0->0<=f.getD c 0:=by
 intro c
 induction c with
 |zero=>
  intro e g;have:=(h 0 e g).1;omega
 |succ c k=>
  intro e g;have j:=(h (c+1) e g).1;grind
theorem kD.rng (h:0<=d.getD a 0):kD b d f a↔(∀k:X,d.getD a 0<=(k:Z)->(k:Z)<d.getD (a+1) 0->0<=f.getD k 0/\f.getD k 0<b)/\(∀k:X,d.getD a 0<(k:Z)->(k:Z)<d.getD (a+1) 0->f.getD (k-1) 0<f.getD k 0):=by
 constructor
 ·intro g;refine⟨λk c e=>⟨g.pos h k c e,(g k c e).2⟩,λk c e=>?_⟩;have:=(g k aa e).1;omega
 rintro⟨c,e⟩ k i j;refine⟨?_,(c k i j).2⟩;split
 ·grind
 grind
theorem afj {l:aj6} {lo hi t:X} (a:hi<=l.length) (b:lo+t<hi):((l.take hi).drop lo).length=hi-lo/\((l.take hi).drop lo)[t]?=Y (l.getD (lo+t) 0):=by grind
theorem afk {l:aj6} {lo:X} (b:a<=l.length):((l.take a).drop lo).length=a-lo:=by grind
theorem gx.iff:gx c a d f g↔d.length=a+1/\d.getD 0 0=0/\(∀b,b<a->d.getD b 0<=d.getD (b+1) 0)/\d.getD a 0=(f.length:Z)/\g.length=f.length/\∀b,b<a->kD (c:Z) d f b:=by
 have o:(∀b,b<a->d.getD b 0<=d.getD (b+1) 0)->d.getD 0 0=0->∀b,b<=a->0<=d.getD b 0:=λr q b=>by
  induction b with
  |zero=>omega
  |succ b s=>grind
 constructor
 ·rintro⟨l,h,i,m,n,k,p⟩;exact⟨l,h,i,m,n,λb j=>(kD.rng (o i h b aa)).2 ⟨λe=>k b e j,λe=>p b e j⟩⟩
 rintro⟨l,h,i,m,n,k⟩;exact⟨l,h,i,m,n,λb e j=>((kD.rng (o i h b aa)).1 (k b j)).1 e,λb e j=>((kD.rng (o i h b aa)).1 (k b j)).2 e⟩
section
open Go.Proofs
def BW:bm (String×DataW bt):=[("math/bits.deBruijn32tab",Lib.tabData .u8 qo)]
def afN (b:Os) (a:ev):laidMetH cm BW ((World.doorLaid cm 400 b).forCall (λ_ _=>0) ⟨#[],a,[]⟩).memory:=
 laidMetH_of_parts3 (fuel:=8) (laidMet_of_run' 8 (by kernel_rfl) (by kernel_rfl)) (by kernel_rfl) (by kernel_rfl)
def afM {b:bC} (c:laidMetH cm BW b):lv E (λr=>r<b.heap.size) b:=by
 rw[MakeChecks.laidMetH_plain _ _ _ (by kernel_rfl)] at c;have f:cm.globalNamed "math/bits.deBruijn32tab"=Y 0:=(by kernel_rfl);have j:=Lib.tabIs_of_head (g:=0) (t:=301) (e:=5) (n:=32) f (by kernel_rfl) (by kernel_rfl) (by kernel_rfl) (by kernel_rfl) (by kernel_rfl) c;intro q h;have h:q∈[(⟨0,301,.u8,qo⟩:uK)]:=h;obtain rfl:=gp.1 h;have s:0<b.heap.size:=by
  have d:=j.cell f 0 ab;unfold alk at d;split at d
  ·rename_i x w y v;exact(sj.1 v).1
  cases d
 refine⟨bn,_,_,bn,bd _,(λc=>by cases c),.inr ⟨0,0,bn,s,λa p i=>?_⟩⟩;obtain⟨l,i⟩:=hT.1 i;refine⟨[.int .u8 p],bn,λo z m=>?_,bn,bn⟩;have k:=j.cell f a l;have u:(qo.getD a 0:Z)=p:=(by rw[j1 l];exact i);rw[u] at k;cases o with
 |zero=>
  obtain rfl:=gq m;have:(⟨0,0+a*aku (.int .u8)+0,bo⟩:Addr)=⟨0,a,bo⟩:=(by show(⟨0,0+a*1+0,bo⟩:Addr)=_;congr 1;omega);rw[this];exact k
 |succ o=>cases m
end
section
theorem We (a0:c<=200) (an:a<=200) (H:d.length<=10000) (Q:f.length<=1000000) (a4:g.length<=1000000):DF (((c:Z),(a:Z),f,d,g,()),())=Y (open Classical in decide (gx c a f d g),()):=by
 classical
 unfold DF;refine bO.1 ?_;dsimp only;have O:aM (a:Z)=((a+1:X):Z):=bc aa;have am:∀(j:¬gx c a f d g),(bp,())=(br (gx c a f d g),()):=λj=>(by rw[akC j]);refine ae.aJ (P:=λm=>match m with
  |.inl _=>f.length=a+1/\f.getD 0 0=0/\(∀b,b<a->f.getD b 0<=f.getD (b+1) 0)/\f.getD a 0=(d.length:Z)/\g.length=d.length
  |.inr o=>o=(bp,())/\¬gx c a f d g) ?_ ?_
 ·rw[O,fL];by_cases A:f.length=a+1
  ·rw[aF (show al f=((a+1:X):Z) by grind)];refine ae.bs (y:=f.getD 0 0) (gu (i:=0) aa) ?_;rw[fL];by_cases q:f.getD 0 0=0
   ·rw[aF q];refine ae.bs (afq Q) ?_;dsimp only;by_cases r:∀p,p+1<f.length->f.getD p 0<=f.getD (p+1) 0
    ·rw[akb r];refine ae.bs (y:=f.getD a 0) (gu aa) ?_;rw[fL];by_cases s:f.getD a 0=(d.length:Z)
     ·rw[aF (show f.getD a 0=al d from s),fL];by_cases B:d.length=g.length
      ·grind [bu,aF,a7]
      rw[aA (show¬al d=al g by grind)];exact bu.2 ⟨bn,λj=>B j.val.symm⟩
     rw[aA (show¬f.getD a 0=al d from s)];exact bu.2 ⟨bn,λj=>s j.last⟩
    rw[akC r];exact bu.2 ⟨bn,λj=>r λp H=>j.mono p aa⟩
   rw[aA q];exact bu.2 ⟨bn,λj=>q j.first⟩
  rw[aA (show¬al f=((a+1:X):Z) by grind)];exact bu.2 ⟨bn,λj=>A j.len⟩
 rintro(m|m) w
 rotate_left
 ·grind [bu]
 obtain⟨A,q,r,s,B⟩:f.length=a+1/\f.getD 0 0=0/\(∀b,b<a->f.getD b 0<=f.getD (b+1) 0)/\f.getD a 0=(d.length:Z)/\g.length=d.length:=w;have F:∀b,b<=a->0<=f.getD b 0:=λb=>by
  induction b with
  |zero=>omega
  |succ b R=>grind
 have w:∀u b,b+u=a->f.getD b 0<=(d.length:Z):=λu=>by
  induction u with
  |zero=>grind
  |succ u R=>grind
 dsimp only;refine ae.aJ (P:=λm=>match m with
  |.inl _=>(∀b,b<a->kD (c:Z) f d b)
  |.inr o=>o=(bp,())/\¬(∀b,b<a->kD (c:Z) f d b)) ?_ ?_
 ·refine ae.steps a (λp x=>x=((p:Z),())/\∀b,b<p->kD (c:Z) f d b) ⟨bn,λb L=>by omega⟩ ?_ ?_
  ·rintro b _ L ⟨rfl,C⟩;dsimp only;rw[aZ (aF (aa:(b:Z)<(a:Z))),bc aa];obtain⟨e,N⟩:=cy (F b aa);obtain⟨n,K⟩:=cy (F (b+1) aa);have E:n<=d.length:=(by have:=w (a-(b+1)) (b+1) aa;omega);have av:e<=n:=(by grind);refine ae.bs (y:=(e:Z)) (by rw[gu aa,N]) (ae.bs (y:=(n:Z)) (by rw[gu aa,K]) (ae.bs (y:=(e,n)) (by grind [vW,vI]) ?_));dsimp only;have ap:=afk (l:=d) (lo:=e) E;refine ae.aJ (P:=λm=>match m with
    |.inl _=>kD (c:Z) f d b
    |.inr o=>o=.inr (.inr (bp,()))/\¬kD (c:Z) f d b) ?_ ?_
   ·refine ae.steps (n-e) (λh x=>x=((if h=0 then-1 else d.getD (e+h-1) 0),(h:Z),())/\∀k:X,e<=k->k<e+h->(if(k:Z)=f.getD b 0 then-1 else d.getD (k-1) 0)<d.getD k 0/\d.getD k 0<(c:Z)) ⟨bn,λk C D=>by omega⟩ ?_ ?_
    ·rintro h _ a3 ⟨rfl,D⟩;have J:=(afj (l:=d) (lo:=e) (hi:=n) (t:=h) E aa).2;have M:(if h=0 then-1 else d.getD (e+h-1) 0)=(if((e+h:X):Z)=f.getD b 0 then-1 else d.getD (e+h-1) 0):=by
      omega
     dsimp only;rw[aZ (aF (show(h:Z)<al ((d.take n).drop e) by grind)),M];refine ae.aJ (P:=λm=>match m with
      |.inl o=>o=(d.getD (e+h) 0,())/\((if((e+h:X):Z)=f.getD b 0 then-1 else d.getD (e+h-1) 0)<d.getD (e+h) 0/\d.getD (e+h) 0<(c:Z))
      |.inr o=>o=.inr (.inr (.inr (.inr (bp,()))))/\¬((if((e+h:X):Z)=f.getD b 0 then-1 else d.getD (e+h-1) 0)<d.getD (e+h) 0/\d.getD (e+h) 0<(c:Z))) ?_ ?_
     ·refine ae.bs (y:=d.getD (e+h) 0) (gg J) ?_;generalize(if((e+h:X):Z)=f.getD b 0 then-1 else d.getD (e+h-1) 0)=V;generalize d.getD (e+h) 0=z;by_cases I:z<=V
      ·grind [bu,aF]
      rw[aA I];by_cases ad:z>=(c:Z)
      ·grind [bu,aF]
      grind [aA,bu]
     rintro(m|m) G
     ·obtain⟨rfl,v⟩:=G;refine bu.2 ⟨?_,?_⟩
      ·rw[bc aa,au aa];rfl
      intro k S T;rcases cT k (e+h) with U|U
      ·grind
      obtain rfl:k=e+h:=aa;exact v
     obtain⟨rfl,v⟩:=G;refine bu.2 ⟨bn,λj=>v ?_⟩;exact j (e+h) aa aa
    rintro _ ⟨rfl,D⟩;dsimp only;rw[aW (aA (show¬(((n-e:X):Z)<al ((d.take n).drop e)) by grind))];refine bu.2 ?_;intro k S T;simp_all
   grind [bu,cn]
  rintro _ ⟨rfl,C⟩;simp_all [bu,aW,aA]
 grind [bu,akb,gx.iff]
def oi (b:aj6):Prop:=∀a,a<b.length->cE (b.getD a 0)≠2047
open Classical in
def hH (d b:X) (e c a:aj6):Z:=if gx d b e c a then if oi a then 0 else 4 else 1
theorem Mh.getD {a:aj6} (e:∀d∈a,e3 d) (c:X):e3 (a.getD c 0):=by
 rcases cT c a.length with b|b
 ·grind
 rw[pu b];exact⟨ab,ab⟩
theorem Z6 (j:∀m∈d,e3 m) (o:d.length<=1000000):DI (d,(),())=Y (open Classical in decide (¬oi d),()):=by
 classical
 unfold DI;refine bO.1 ?_;refine ae.aJ (P:=λc=>∃e,c=(e,())/\(0<=e↔¬oi d)) ?_ ?_
 ·unfold H7;dsimp only;refine ae.aJ (P:=λk=>match k with|.inl _=>oi d|.inr c=>0<=c.1/\¬oi d) ?_ ?_
  ·refine ae.steps d.length (λa l=>l=((a:Z),())/\∀b,b<a->cE (d.getD b 0)≠2047) ⟨bn,λb n=>by omega⟩ ?_ ?_
   ·rintro a _ h ⟨rfl,g⟩;dsimp only;rw[aZ (aF (show(a:Z)<al d by grind))];refine ae.bs (gu h) ?_;unfold H5;refine ae.bs (y:=(br (cE (d.getD a 0)=2047),())) (ai (Fb (Mh.getD j a)) (by grind)) ?_;dsimp only;rw[c3];refine ae.ite (λf=>?_) λf=>?_
    ·exact bu.2 ⟨aa,λi=>i a h f⟩
    grind [bu,bc,cn]
   rintro _ ⟨rfl,g⟩;dsimp only;rw[aW (aA (show¬((d.length:Z)<al d) by grind))];exact bu.2 g
  grind [bu]
 rintro _ ⟨e,rfl,p⟩;refine bu.2 ?_;grind
theorem Zr (j:c<=200) (h:a<=200) (i:f.length<=10000) (k:g.length<=1000000) (e:d.length<=1000000) (l:∀m∈d,e3 m):s8 (((c:Z),(a:Z),g,f,d,()),())=Y (hH c a g f d,()):=by
 classical
 unfold s8 hH;dsimp only;refine ai (y:=(bp,())) ?_ ?_
 ·unfold DH;grind
 dsimp only;rw[bP];refine ai (We j h i k e) ?_;dsimp only;by_cases b:gx c a g f d
 ·rw[akb b,aw b];refine ai (Z6 l e) ?_;grind
 grind
end
theorem aeA (h:∀l∈d,e3 l) (n:d.length<=1000000):Eg (d,())=Y (open Classical in decide (oi d),()):=by
 classical
 unfold Eg;refine bO.1 ?_;dsimp only;refine ae.aJ (P:=λi=>match i with|.inl _=>oi d|.inr j=>j=(bp,())/\¬oi d) ?_ ?_
 ·refine ae.steps d.length (λa k=>k=((a:Z),())/\∀b,b<a->cE (d.getD b 0)≠2047) ⟨bn,λb m=>by omega⟩ ?_ ?_
  ·rintro a _ f ⟨rfl,e⟩;dsimp only;rw[aZ (aF (show(a:Z)<al d by grind))];refine ae.bs (gu f) (ae.bs (BE (Mh.getD h a)) ?_);dsimp only;rw[Bool.not_not,c3];refine ae.ite (λc=>?_) λc=>?_
   ·exact bu.2 ⟨bn,λg=>g a f c⟩
   grind [bu,bc,cn]
  rintro _ ⟨rfl,e⟩;dsimp only;rw[aW (aA (show¬((d.length:Z)<al d) by grind))];exact bu.2 e
 grind [akb,bu,akC]
theorem aef (bl:c<=200) (an:a<=200) (ap:f.length<=10000) (bx:d.length<=1000000) (R:g.length<=1000000) (S:∀ad∈g,e3 ad):tb (((c:Z),(a:Z),d,f,g,()),())=Y (hH c a d f g,()):=by
 classical
 unfold tb;refine bO.1 ?_;dsimp only;have Q:aM (a:Z)=((a+1:X):Z):=bc aa;have am:∀(l:¬gx c a d f g),((1:Z),())=(hH c a d f g,()):=λl=>(by unfold hH;grind);refine ae.bs (y:=.inl ()) ?_ ?_
 ·grind
 dsimp only;refine ae.aJ (P:=λk=>match k with
  |.inl _=>d.length=a+1/\d.getD 0 0=0/\d.getD a 0=(f.length:Z)/\g.length=f.length
  |.inr m=>m=((1:Z),())/\¬gx c a d f g) ?_ ?_
 ·rw[Q,fL,fL];by_cases B:g.length=f.length
  ·rw[aF (show al g=al f by grind)];by_cases A:d.length=a+1
   ·rw[aF (show al d=((a+1:X):Z) by grind)];refine ae.bs (y:=d.getD 0 0) (gu (i:=0) aa) ?_;rw[fL];by_cases q:d.getD 0 0=0
    ·rw[aF q];refine ae.bs (y:=d.getD a 0) (gu aa) ?_;rw[fL];by_cases u:d.getD a 0=(f.length:Z)
     ·grind [bu,aF]
     rw[aA (show¬d.getD a 0=al f from u)];exact bu.2 ⟨bn,λl=>u l.last⟩
    rw[aA q];exact bu.2 ⟨bn,λl=>q l.first⟩
   rw[aA (show¬al d=((a+1:X):Z) by grind)];exact bu.2 ⟨bn,λl=>A l.len⟩
  rw[aA (show¬al g=al f by grind)];exact bu.2 ⟨bn,λl=>B l.val⟩
 rintro(k|k) r
 rotate_left
 ·grind [bu]
 obtain⟨A,q,u,B⟩:d.length=a+1/\d.getD 0 0=0/\d.getD a 0=(f.length:Z)/\g.length=f.length:=r;dsimp only;refine ae.aJ (P:=λk=>match k with
  |.inl _=>(∀b,b<a->d.getD b 0<=d.getD (b+1) 0)
  |.inr m=>m=((1:Z),())/\¬gx c a d f g) ?_ ?_
 ·refine ae.steps a (λp t=>t=((p:Z),())/\∀b,b<p->d.getD b 0<=d.getD (b+1) 0) ⟨bn,λb z=>by omega⟩ ?_ ?_
  ·rintro b _ z ⟨rfl,x⟩;dsimp only;rw[aZ (aF (aa:(b:Z)<(a:Z))),bc aa];refine ae.bs (gu aa) (ae.bs (gu aa) ?_);rw[c3];refine ae.ite (λw=>?_) λw=>?_
   ·exact bu.2 ⟨bn,λl=>by have:=l.mono b z;omega⟩
   grind [bu,cn]
  rintro _ ⟨rfl,x⟩;simp_all [bu,aW,aA]
 rintro(k|k) r
 rotate_left
 ·grind [bu]
 have M:∀b,b<a->d.getD b 0<=d.getD (b+1) 0:=r;have J:∀b,b<=a->0<=d.getD b 0:=λb=>by
  induction b with
  |zero=>omega
  |succ b K=>grind
 have r:∀v b,b+v=a->d.getD b 0<=(f.length:Z):=λv=>by
  induction v with
  |zero=>grind
  |succ v K=>grind
 dsimp only;refine ae.aJ (P:=λk=>match k with
  |.inl _=>(∀b,b<a->kD (c:Z) d f b)
  |.inr m=>m=((1:Z),())/\¬(∀b,b<a->kD (c:Z) d f b)) ?_ ?_
 ·refine ae.steps a (λp t=>t=((p:Z),())/\∀b,b<p->kD (c:Z) d f b) ⟨bn,λb z=>by omega⟩ ?_ ?_
  ·rintro b _ z ⟨rfl,x⟩;dsimp only;rw[aZ (aF (aa:(b:Z)<(a:Z))),bc aa];obtain⟨e,a3⟩:=cy (J b aa);obtain⟨o,O⟩:=cy (J (b+1) aa);have av:o<=f.length:=(by have:=r (a-(b+1)) (b+1) aa;omega);have a0:e<=o:=(by grind);have G:ar d (b:Z)=Y (e:Z):=(by grind [gu]);have H:ar d ((b+1:X):Z)=Y (o:Z):=(by rw[gu aa,O]);refine ae.bs G ?_;refine ae.aJ (P:=λk=>match k with
    |.inl _=>kD (c:Z) d f b
    |.inr m=>m=.inr (.inr ((1:Z),()))/\¬kD (c:Z) d f b) ?_ ?_
   ·refine ae.steps (o-e) (λh t=>t=(((e+h:X):Z),())/\∀j:X,e<=j->j<e+h->(if(j:Z)=d.getD b 0 then-1 else f.getD (j-1) 0)<f.getD j 0/\f.getD j 0<(c:Z)) ⟨bn,λj x n=>by omega⟩ ?_ ?_
    ·rintro h _ ce ⟨rfl,n⟩;dsimp only;refine ae.bs H ?_;rw[aZ (aF (aa:((e+h:X):Z)<(o:Z)))];have C:ar f ((e+h:X):Z)=Y (f.getD (e+h) 0):=gu aa;have a4:h≠0->0<=f.getD (e+h-1) 0:=λV=>by
      have U:∀j:X,e<=j->j<e+h->0<=f.getD j 0:=by
       intro j
       induction j with
       |zero=>
        grind
       |succ j K=>
        intro D E;have I:=(n (j+1) D E).1;by_cases w:((j+1:X):Z)=d.getD b 0
        ·omega
        grind
      exact U _ aa aa
     refine ae.aJ (P:=λk=>match k with
      |.inl _=>((if((e+h:X):Z)=d.getD b 0 then-1 else f.getD (e+h-1) 0)<f.getD (e+h) 0/\f.getD (e+h) 0<(c:Z))
      |.inr m=>m=.inr (.inr (.inr (.inr ((1:Z),()))))/\¬((if((e+h:X):Z)=d.getD b 0 then-1 else f.getD (e+h-1) 0)<f.getD (e+h) 0/\f.getD (e+h) 0<(c:Z))) ?_ ?_
     ·refine ae.bs C ?_;by_cases F:f.getD (e+h) 0<0
      ·rw[aF F];refine bu.2 ⟨bn,λl=>?_⟩;omega
      rw[aA F];refine ae.bs C ?_;by_cases L:f.getD (e+h) 0>=(c:Z)
      ·grind [bu,aF]
      rw[aA L];refine ae.bs G ?_;by_cases V:h=0
      ·rw[aA (aa:¬((e+h:X):Z)>(e:Z))];refine bu.2 ⟨?_,aa⟩;omega
      rw[aF (aa:((e+h:X):Z)>(e:Z))];have ao:ax (((e+h:X):Z)-1)=((e+h-1:X):Z):=(by rw[bh aa aa];omega);refine ae.bs C (ae.bs (y:=f.getD (e+h-1) 0) (by rw[ao];exact gu aa) ?_);rw[c3];refine ae.ite (λw=>?_) λw=>?_
      ·refine bu.2 ⟨bn,λl=>?_⟩;omega
      refine bu.2 ⟨?_,aa⟩;omega
     rintro(k|k) s
     ·refine bu.2 ⟨by rw[bc aa];rfl,?_⟩;intro j D E;rcases cT j (e+h) with T|T
      ·grind
      obtain rfl:j=e+h:=aa;omega
     obtain⟨rfl,I⟩:=s;exact bu.2 ⟨bn,λl=>I (l (e+h) aa aa)⟩
    rintro _ ⟨rfl,n⟩;dsimp only;refine ae.bs H ?_;rw[aW (aA (aa:¬(((e+(o-e):X):Z)<(o:Z))))];refine bu.2 ?_;intro j D E;simp_all
   grind [bu,cn]
  rintro _ ⟨rfl,x⟩;simp_all [bu,aW,aA]
 rintro(k|k) s
 ·have s:(∀b,b<a->kD (c:Z) d f b):=s;have N:gx c a d f g:=gx.iff.2 ⟨A,q,M,u,B,s⟩;refine ae.bs (aeA S R) ?_;unfold hH;rw[aw N];by_cases n:oi g
  ·rw[akb n,aw n];grind [bu]
  rw[akC n,au n];grind [bu]
 grind [bu,gx.iff]
abbrev cY:=Z×Z×Z×bt
variable{s:bm cY}
def jj (b d:aj6) (c:Z) (a:X):X->bm cY
 |0=>[]
 |n+1=>jj b d c a n++[(b.getD (a+n) 0,c,d.getD (a+n) 0,())]
def eG (a b c:aj6):X->bm cY
 |0=>[]
 |j+1=>eG a b c j++jj b c (j:Z) (a.getD j 0).toNat ((a.getD (j+1) 0).toNat-(a.getD j 0).toNat)
theorem N7 (c f:aj6) (d:Z) (e a:X):(jj c f d e a).length=a:=by
 induction a with
 |zero=>rfl
 |succ a b=>simp[jj,b]
def gx.pos (e:gx c a d f g):∀b,b<=a->0<=d.getD b 0:=λb=>by
 have:=e.first
 induction b with
 |zero=>omega
 |succ b h=>intro i;have:=h aa;have:=e.mono b aa;omega
theorem gx.qG (h:gx c a f d g):∀b,b<=a->f.getD b 0<=(d.length:Z):=by
 have k:∀e b,b+e=a->f.getD b 0<=(d.length:Z):=λe=>by
  have:=h.last
  induction e with
  |zero=>grind
  |succ e j=>intro b i;have:=j (b+1) aa;have:=h.mono b aa;omega
 exactλb i=>k (a-b) b aa
theorem AL (e:gx c a d f g):∀b,b<=a->(eG d f g b).length=(d.getD b 0).toNat:=λb=>by
 induction b with
 |zero=>intro _;have:=e.first;show 0=(d.getD 0 0).toNat;omega
 |succ b h=>
  intro k;have i:=h aa;have j:=e.mono b aa;grind [akG,N7,eG]
theorem Iw (e:gx c a g d f) (p:a<=200) (r:d.length<=10000):xD (((c:Z),(a:Z),g,d,f,()),())=Y (eG g d f a,()):=by
 unfold xD;refine bO.1 ?_;dsimp only;refine ae.aJ (P:=λk=>k=(eG g d f a,())) ?_ (by grind [bu]);refine ae.steps a (λb l=>l=((b:Z),eG g d f b,())) rfl ?_ ?_
 ·rintro b _ n rfl;have s:=e.len;obtain⟨i,o⟩:=cy (e.pos b aa);obtain⟨h,m⟩:=cy (e.pos (b+1) aa);have t:h<=d.length:=(by have:=e.qG (b+1) aa;omega);have u:i<=h:=(by have:=e.mono b n;omega);have q:=AL e b aa;have w:=e.val;dsimp only;rw[aZ (aF (aa:(b:Z)<(a:Z))),bc aa];refine ae.bs (y:=(i:Z)) (by rw[gu aa,o]) ?_;refine ae.aJ (P:=λk=>k=(eG g d f (b+1),())) ?_ (by grind [bu]);refine ae.steps (h-i) (λj l=>l=(((i+j:X):Z),eG g d f b++jj d f (b:Z) i j,())) (by simp[jj]) ?_ ?_
  ·rintro j _ v rfl;dsimp only;refine ae.bs (y:=(h:Z)) (by rw[gu aa,m]) ?_;rw[aZ (aF (aa:((i+j:X):Z)<(h:Z)))];refine ae.bs (gu aa) (ae.bs (gu aa) ?_);rw[eS (by grind [N7])];refine bu.2 ?_;rw[bc aa,ald];rfl
  rintro _ rfl;dsimp only;refine ae.bs (y:=(h:Z)) (by rw[gu aa,m]) ?_;simp_all [bu,aW,aA,eG,jj]
 rintro _ rfl;dsimp only;rw[aW (aA (aa:¬((a:Z)<(a:Z))))];grind [bu]
structure iZ (rows eL:X) (st iA nB:aj6):Prop where
 hr:rows<=200
 hc:eL<=200
 hi:iA.length<=10000
 hs:st.length<=1000000
 hv:nB.length<=1000000
 hw:∀v∈nB,e3 v
def iZ.check (b:iZ c a f d g):s8 (((c:Z),(a:Z),f,d,g,()),())=Y (hH c a f d g,()):=Zr b.hr b.hc b.hi b.hs b.hv b.hw
def iZ.yB (b:iZ c a f d g):tb (((c:Z),(a:Z),f,d,g,()),())=Y (hH c a f d g,()):=aef b.hr b.hc b.hi b.hs b.hv b.hw
theorem kM:hH c a g f d=0↔gx c a g f d/\oi d:=by unfold hH;grind
def T4 (b:iZ c a f d g) (e:hH c a f d g=0):DC (((c:Z),(a:Z),f,d,g,()),())=Y (eG f d g a,()):=by unfold DC;refine ai b.check ?_;dsimp only;rw[e,fL,aF bn];exact ai (Iw (kM.1 e).1 b.hc b.hi) rfl
theorem RK (b:iZ c a f d g) (i:hH c a f d g=0):Aw (((c:Z),(a:Z),f,d,g,()),())=Y (eG f d g a,()):=by have e:=(kM.1 i).1;have h:=Iw e b.hc b.hi;unfold xD at h;unfold Aw;refine ai b.yB ?_;grind
def hy (a b:cY):Prop:=a.2.1<b.2.1\/(a.2.1=b.2.1/\a.1<b.1)
def vQ {i:cY}:i∈jj d f b c a↔∃e,e<a/\i=(d.getD (c+e) 0,b,f.getD (c+e) 0,()):=by
 induction a with
 |zero=>simp[jj]
 |succ a l=>
  simp only[jj,hn,l,gp];constructor
  ·rintro(⟨e,k,g⟩|j)
   ·exact⟨e,aa,g⟩
   exact⟨a,aa,j⟩
  rintro⟨e,k,g⟩;rcases cT e a with h|h
  ·exact .inl ⟨e,h,g⟩
  obtain rfl:e=a:=aa;exact .inr g
def WW (h:∀g e,g<e->e<a->d.getD (c+g) 0<d.getD (c+e) 0):(jj d f b c a).Pairwise hy:=by
 induction a with
 |zero=>exact amb
 |succ a m=>
  refine apo.2 ⟨m λg e i p=>h g e i aa,List.pairwise_singleton _ _,?_⟩;intro n j o k;obtain⟨e,l,rfl⟩:=vQ.1 j;rw[gp.1 k];exact .inr ⟨bn,h e a l aa⟩
def Bd {h:cY}:h∈eG d f g a↔∃b,b<a/\h∈jj f g (b:Z) (d.getD b 0).toNat ((d.getD (b+1) 0).toNat-(d.getD b 0).toNat):=by
 induction a with
 |zero=>simp[eG]
 |succ a k=>
  simp only[eG,hn,k];constructor
  ·rintro(⟨b,j,c⟩|i)
   ·exact⟨b,aa,c⟩
   exact⟨a,aa,i⟩
  rintro⟨b,j,c⟩;rcases cT b a with e|e
  ·exact .inl ⟨b,e,c⟩
  obtain rfl:b=a:=aa;exact .inr c
def tk (k:gx c a d f g):∀b,b<=a->(eG d f g b).Pairwise hy:=by
 intro b
 induction b with
 |zero=>intro _;exact amb
 |succ b q=>
  intro p;have C:=k.pos b aa;have D:=k.pos (b+1) p;refine apo.2 ⟨q aa,WW ?_,?_⟩
  ·intro h i v w;have s:∀e,h+e<(d.getD (b+1) 0).toNat-(d.getD b 0).toNat->0<e->f.getD ((d.getD b 0).toNat+h) 0<f.getD ((d.getD b 0).toNat+(h+e)) 0:=by
    intro e
    induction e with
    |zero=>intro _ y;omega
    |succ e r=>
     intro x _;have m:=k.asc b ((d.getD b 0).toNat+(h+(e+1))) aa aa aa;rw[(aa:(d.getD b 0).toNat+(h+(e+1))-1=(d.getD b 0).toNat+(h+e))] at m;rcases rk e with j|j
     ·subst j;exact m
     have:=r aa j;omega
   have:=s (i-h) aa aa;rwa[(aa:h+(i-h)=i)] at this
  intro t l u o;obtain⟨n,z,l⟩:=Bd.1 l;obtain⟨i,A,rfl⟩:=vQ.1 l;obtain⟨E,B,rfl⟩:=vQ.1 o;exact .inl (by show(n:Z)<(b:Z);omega)
def ac5 (a b:Z):CV ([a,b],())=Y (if a≠0 then a else b,()):=by
 unfold CV;refine bO.1 ?_;dsimp only;refine ae.aJ (P:=λf=>match f with|.inl _=>a=0/\b=0|.inr k=>k=(if a≠0 then a else b,())) ?_ ?_
 ·refine ae.steps 2 (λd l=>l=((d:Z),())/\(1<=d->a=0)/\(2<=d->b=0)) ⟨bn,λh=>by omega,λh=>by omega⟩ ?_ ?_
  ·rintro d _ m ⟨rfl,g,i⟩;rcases(aa:d=0\/d=1) with rfl|rfl
   ·show ae (bif a !=0 then _ else _) _;rw[fL];by_cases c:a=0
    ·rw[aF c];exact bu.2 ⟨bn,λ_=>c,λh=>by omega⟩
    rw[aA c];refine bu.2 ?_;rw[aw c]
   show ae (bif b !=0 then _ else _) _;have j:=g ab;rw[fL];by_cases c:b=0
   ·rw[aF c];exact bu.2 ⟨bn,λ_=>j,λ_=>c⟩
   rw[aA c];refine bu.2 ?_;rw[au (by simpa using j)]
  rintro _ ⟨rfl,g,i⟩;exact bu.2 ⟨g ab,i ab⟩
 rintro(f|f) e
 ·obtain⟨rfl,rfl⟩:a=0/\b=0:=e;exact bu.2 bn
 have e:f=_:=e;rw[e];exact bu.2 bn
def N0 {a b:cY} (c:hy a b):xE (b,a,())=Y (1,()):=by
 unfold xE;refine ai (CQ _ _) (ai (CQ _ _) (ai (ac5 _ _) ?_));dsimp only;congr 2;unfold gd;rcases c with c|⟨e,d⟩
 ·rw[au (aa:¬b.2.1<a.2.1),aw c];rfl
 rw[au (aa:¬b.2.1<a.2.1),au (aa:¬a.2.1<b.2.1),au ac,au (aa:¬b.1<a.1),aw d]
def Ja (i:s.length<=1000) (e:s.Pairwise hy) {lo hi:X} (f:lo<=hi) (g:hi<=s.length):Ae (s,(lo:Z),(hi:Z),(),())=Y (s,()):=by
 unfold Ae;refine bO.1 ?_;dsimp only;refine ae.aJ (P:=λc=>c=(s,())) ?_ (by rintro _ rfl;exact bu.2 bn);refine ae.steps (hi-lo-1) (λa b=>b=(((lo+1+a:X):Z),s,())) (by rw[bc aa]) ?_ ?_
 ·rintro a _ h rfl;dsimp only;rw[aZ (aF (aa:((lo+1+a:X):Z)<(hi:Z)))];refine ae.aJ (P:=λc=>c=(s,())) ?_ (by rintro _ rfl;refine bu.2 ?_;dsimp only;rw[bc aa];rfl);refine ae.steps 0 (λ_ b=>b=(((lo+1+a:X):Z),s,())) rfl (λa b hi=>by omega) ?_;rintro _ rfl;dsimp only;refine ae.bs (y:=.inr (.inr (s,()))) ?_ (bu.2 bn);rw[aF (aa:((lo+1+a:X):Z)>(lo:Z))];have ao:ax (((lo+1+a:X):Z)-1)=((lo+a:X):Z):=(by rw[bh aa aa];omega);rw[akB,bG,je aa,ao,je aa];have d:hy s[lo+a] s[lo+1+a]:=cA.1 e _ _ aa aa aa;exact ai (N0 d) rfl
 rintro _ rfl;dsimp only;rw[aW (aA (aa:¬((lo+1+(hi-lo-1):X):Z)<(hi:Z)))];exact bu.2 bn
def afJ (u:s.length=21) (m:s.Pairwise hy):DV (s,0,20,21,(),())=Y (s,()):=by
 unfold DV;refine bO.1 ?_;dsimp only;rw[aW ab,aZ ab];refine ae.aJ (P:=λh=>h=(20,s,())) ?_ ?_
 ·refine ae.steps 4 (λd g=>g=((([0,11,16,19,20]:aj5).getD d 0:Z),20,s,())) rfl ?_ ?_
  ·rintro d _ v rfl;have f:∀c a:X,c<20->a<20->eN bD (aK (ax ((c:Z)+20))) 1=Y (a:Z)->ax (a:Z)=(a:Z)->aM (a:Z)=((a+1:X):Z)->
    ae (
     bif br ((c:Z)<20) then(eN bD (aK (ax ((c:Z)+20))) 1).bind λi=>
     rd s 20 λo=>rd s (ax i) λp=>(xE (o,p,())).bind λ(n,_)=>
      (bif !(br (n<0)) then Y (.inl (aM (ax i),20,s,())) else bo) else Y (.inr ((c:Z),s,())))
     (λe=>e=Sum.inl (((a+1:X):Z),(20:Z),s,())):=by
    intro c a q r j k l;rw[aZ (aF aa),j,bK,k,show(20:Z)=((20:X):Z) from rfl,je aa,je aa];refine ae.bs (N0 (cA.1 m _ _ aa aa aa)) ?_;dsimp only;rw[aZ ab,l];exact bu.2 bn
   rcases(by omega:d=0\/d=1\/d=2\/d=3) with rfl|rfl|rfl|rfl
   ·exact(f 0 10 ab ab ab ab ab).mono λe b=>by rw[b];rfl
   ·exact(f 11 15 ab ab ab ab ab).mono λe b=>by rw[b];rfl
   ·exact(f 16 18 ab ab ab ab ab).mono λe b=>by rw[b];rfl
   exact(f 19 19 ab ab ab ab ab).mono λe b=>by rw[b];rfl
  rintro _ rfl;exact bu.2 bn
 rintro _ rfl;dsimp only;refine ae.aJ (P:=λh=>h=(s,())) ?_ (by rintro _ rfl;exact bu.2 bn);refine ae.steps 0 (λ_ g=>g=(20,s,())) rfl (λw g t=>by omega) ?_;rintro _ rfl;exact bu.2 bn
def afm (l:s.length<=21) (d:s.Pairwise hy):DG (s,())=Y (s,()):=by
 unfold DG;refine ai (y:=(s,())) ?_ ?_
 ·unfold H6;have f:((cI (([]:bm cY).length+s.length)).bind λ_=>Y (([]++s:bm cY),()))=Y (s,()):=by
   rw[eS (by simp;omega)];rfl
  show r1 s.length (Y ([],())) ((cI (([]:bm cY).length+s.length)).bind λ_=>Y (([]++s:bm cY),()))=_;unfold r1;rw[f];split
  ·rename_i h;obtain rfl:=re h;rw[aw bn]
  rfl
 refine ai (y:=(s,())) ?_ bn;unfold Ic;refine ai (y:=(s,())) ?_ bn;unfold If;refine bO.1 ?_;dsimp only;by_cases j:s.length<20
 ·refine ae.aJ (P:=λb=>b=(0,s,())) ?_ ?_
  ·refine ae.steps 0 (λ_ a=>a=(0,20,s,())) rfl (λg a e=>by omega) ?_;rintro _ rfl;dsimp only;rw[aW (aA (show¬((20:Z)<=al s) by simp only[a7];omega))];exact bu.2 bn
  rintro _ rfl;refine ae.bs (Ja (lo:=0) aa d (Nat.zero_le _) (cd _)) ?_;refine ae.aJ (P:=λb=>b=(s,())) ?_ (by rintro _ rfl;exact bu.2 bn);refine ae.steps 0 (λ_ a=>a=(20,s,())) rfl (λg a e=>by omega) ?_;rintro _ rfl;dsimp only;rw[aW (aA (show¬((20:Z)<al s) by simp only[a7];omega))];exact bu.2 bn
 refine ae.aJ (P:=λb=>b=(20,s,())) ?_ ?_
 ·refine ae.steps 1 (λc a=>a=((20*(c:Z)),20+20*(c:Z),s,())) rfl ?_ ?_
  ·rintro c _ i rfl;obtain rfl:c=0:=aa;dsimp only;rw[aZ (aF (show(20:Z)+20*((0:X):Z)<=al s by simp only[a7];omega))];refine ae.bs (Ja (lo:=0) (hi:=20) aa d (Nat.zero_le _) aa) ?_;exact bu.2 bn
  rintro _ rfl;dsimp only;rw[aW (aA (show¬((20:Z)+20*((1:X):Z)<=al s) by simp only[a7];omega))];exact bu.2 bn
 rintro _ rfl;refine ae.bs (Ja (lo:=20) aa d aa (bd _)) ?_;refine ae.aJ (P:=λb=>b=(s,())) ?_ (by rintro _ rfl;exact bu.2 bn);by_cases k:s.length=20
 ·refine ae.steps 0 (λ_ a=>a=(20,s,())) rfl (λg a e=>by omega) ?_;rintro _ rfl;dsimp only;rw[aW (aA (show¬((20:Z)<al s) by simp only[a7];omega))];exact bu.2 bn
 refine ae.steps 1 (λc a=>a=(20+20*(c:Z),s,())) rfl ?_ ?_
 ·rintro c _ i rfl;obtain rfl:c=0:=aa;dsimp only;rw[aZ (aF (show(20:Z)+20*((0:X):Z)<al s by simp only[a7];omega))];refine ae.aJ (P:=λb=>b=(0,s,())) ?_ ?_
  ·refine ae.steps 0 (λ_ a=>a=(0,40,s,())) rfl (λg a e=>by omega) ?_;rintro _ rfl;dsimp only;rw[aW (aA (show¬((40:Z)<=al s) by simp only[a7];omega))];exact bu.2 bn
  rintro _ rfl;refine ae.bs (y:=(s,())) ?_ (bu.2 bn);dsimp only;have f:al s=21:=(by rw[a7];omega);rw[f,aZ (aF (ab:ax (0+(20+20*((0:X):Z)))<21))];exact ai (afJ aa d) rfl
 rintro _ rfl;dsimp only;rw[aW (aA (show¬((20:Z)+20*((1:X):Z)<al s) by simp only[a7];omega))];exact bu.2 bn
def jE (E:bm cY) (a:Z):X:=(E.filter λb=>br (b.2.1=a)).length
def g3 (E:bm cY) (a:Z):X:=(E.filter λb=>br (b.2.1<a)).length
def rX (d b:X) (E:bm cY):da:=((d:Z),(b:Z),az (b+1) (λc=>(g3 E (c:Z):Z)),E.map (λa=>a.1),E.map (λa=>a.2.2.1),())
theorem HN (E:bm cY) (a:Z):g3 E (a+1)=g3 E a+jE E a:=by
 unfold g3 jE
 induction E with
 |nil=>rfl
 |cons b E d=>
  simp only[lZ];rcases Int.lt_trichotomy b.2.1 a with c|c|c
  ·rw[aw (by simpa using(by omega:b.2.1<a+1)),aw (by simpa using c),au (by simpa using(by omega:¬b.2.1=a))];simp only[iv];omega
  ·rw[aw (by simpa using(by omega:b.2.1<a+1)),au (by simpa using(by omega:¬b.2.1<a)),aw (by simpa using c)];simp only[iv];omega
  rw[au (by simpa using(by omega:¬b.2.1<a+1)),au (by simpa using(by omega:¬b.2.1<a)),au (by simpa using(by omega:¬b.2.1=a))];omega
def lw (c b:X) (E:bm cY):Prop:=∀a∈E,0<=a.1/\a.1<(c:Z)/\0<=a.2.1/\a.2.1<(b:Z)
def Nq (E:bm cY) (c:cY) (a:Z):jE (E++[c]) a=jE E a+if c.2.1=a then 1 else 0:=by
 unfold jE;rw[o5,h5];congr 1;by_cases b:c.2.1=a
 ·rw[aw b,GW (by simpa using b)];rfl
 rw[au b,GV (by simpa using b)];rfl
def VK {E:bm cY} (C:c<=200) (B:a<=200) (n:E.length<=21) (y:E.Pairwise hy) (t:lw c a E):DE ((c:Z),(a:Z),E,())=Y (rX c a E,()):=by
 unfold DE;refine bO.1 ?_;dsimp only;rw[bc aa];refine ae.bs (h0 aa) (ae.bs (afm n y) ?_);dsimp only;refine ae.aJ (P:=λr=>r=(((0:Z),((0:Z),([],([],([],()))))),((c:Z),(a:Z),az (a+1) (λb=>if b=0 then(0:Z) else(jE E ((b:Z)-1):Z)),E.map (λe=>e.1),E.map (λe=>e.2.2.1),()),())) ?_ ?_
 ·refine ae.steps E.length (λd s=>s=((d:Z),((0:Z),((0:Z),([],([],([],()))))),((c:Z),(a:Z),az (a+1) (λb=>if b=0 then(0:Z) else(jE (E.take d) ((b:Z)-1):Z)),(E.take d).map (λe=>e.1),(E.take d).map (λe=>e.2.2.1),()),E,())) ?_ ?_ ?_
  ·have j:(az (a+1) λ_=>(0:Z))=az (a+1) λb=>if b=0 then(0:Z) else(jE (E.take 0) ((b:Z)-1):Z):=db λb l=>by split<;>rfl
   rw[iQ,j];rfl
  ·rintro d _ k rfl;have q:=t E[d] (b3 k);obtain⟨i,w⟩:=cy q.2.2.1;dsimp only;rw[aZ (aF (show(d:Z)<al E by simp only[a7];omega)),je k];have ao:aM E[d].2.1=((i+1:X):Z):=(by rw[w,bc aa]);have p:E.take (d+1)=E.take d++[E[d]]:=(by rw[akd,bX k];rfl);rw[eS (by simp;omega),bK,eS (by simp;omega),bK,ao];refine ae.bs (fc (by rw[cN];omega)) (ae.bs (gO aa) (ae.bs (fc (by rw[cN];omega)) ?_));rw[gO aa];refine bu.2 ?_;have o:(az (a+1) (λb=>if b=0 then(0:Z) else(jE (E.take d) ((b:Z)-1):Z))).set (i+1) (aM (if i+1=0 then(0:Z) else(jE (E.take d) (((i+1:X):Z)-1):Z)))=az (a+1) (λb=>if b=0 then(0:Z) else(jE (E.take (d+1)) ((b:Z)-1):Z)):=by
    rw[hx];refine db λb l=>?_;have m:∀g,jE (E.take d) g<=21:=λg=>c4 (lB _ _) (by rw[gn];omega);by_cases f:b=i+1
    ·subst f;rw[gG,au aa,au aa,bc (by have:=m (((i+1:X):Z)-1);omega),p,Nq,aw aa]
    rw[hb _ _ f];by_cases h:b=0
    ·rw[aw h,aw h]
    rw[au h,au h,p,Nq,au aa,l4]
   dsimp only[alX];rw[bc aa,o,p,amA,amA];rfl
  rintro _ rfl;dsimp only;rw[aW (aA (show¬((E.length:Z)<al E) by simp only[a7];omega)),cl (cd _)];exact bu.2 bn
 rintro _ rfl;dsimp only;refine ae.aJ (P:=λr=>r=(((0:Z),((0:Z),([],([],([],()))))),rX c a E,())) ?_ (by rintro _ rfl;exact bu.2 bn);have x:∀g,g3 E g<=21:=λg=>cw (aky _ _) n;have m:∀g,jE E g<=21:=λg=>cw (aky _ _) n;have v:g3 E 0=0:=by
  unfold g3;rw[Ch.2]
  ·rfl
  intro e q;have:=t e q;simpa using this.2.2.1
 refine ae.steps a (λd s=>s=((d:Z),((0:Z),((0:Z),([],([],([],()))))),((c:Z),(a:Z),az (a+1) (λb=>if b<=d then(g3 E (b:Z):Z) else(jE E ((b:Z)-1):Z)),E.map (λe=>e.1),E.map (λe=>e.2.2.1),()),())) ?_ ?_ ?_
 ·have j:(az (a+1) λb=>if b=0 then(0:Z) else(jE E ((b:Z)-1):Z))=az (a+1) (λb=>if b<=0 then(g3 E (b:Z):Z) else(jE E ((b:Z)-1):Z)):=db λb l=>by
   by_cases f:b=0
   ·subst f;rw[aw bn,aw (bd _)];show(0:Z)=((g3 E 0:X):Z);rw[v];rfl
   rw[au f,au aa]
  rw[j];rfl
 ·rintro d _ k rfl;dsimp only;rw[aZ (aF (aa:(d:Z)<(a:Z))),bc aa,je (by rw[cN];omega),je (by rw[cN];omega),lJ,lJ];refine ae.bs (fc (by rw[cN];omega)) ?_;rw[gO aa];refine bu.2 ?_;have o:(az (a+1) (λb=>if b<=d then(g3 E (b:Z):Z) else(jE E ((b:Z)-1):Z))).set (d+1) (ax ((if d+1<=d then(g3 E ((d+1:X):Z):Z) else(jE E (((d+1:X):Z)-1):Z))+(if d<=d then(g3 E (d:Z):Z) else(jE E ((d:Z)-1):Z))))=az (a+1) (λb=>if b<=d+1 then(g3 E (b:Z):Z) else(jE E ((b:Z)-1):Z)):=by
   rw[hx];refine db λb l=>?_;by_cases f:b=d+1
   ·subst f;have u:=HN E (d:Z);have z:=m (d:Z);have A:=x (d:Z);rw[gG,au aa,aw (bd _),aw (bd _),(aa:(((d+1:X):Z)-1)=(d:Z)),bh aa aa,(aa:((d+1:X):Z)=(d:Z)+1),u];omega
   rw[hb _ _ f];by_cases h:b<=d
   ·rw[aw h,aw aa]
   rw[au h,au aa]
  dsimp only[alX];rw[o]
 rintro _ rfl;dsimp only;rw[aW (aA (aa:¬((a:Z)<(a:Z))))];have j:az (a+1) (λb=>if b<=a then(g3 E (b:Z):Z) else(jE E ((b:Z)-1):Z))=az (a+1) (λb=>(g3 E (b:Z):Z)):=db λb l=>(by rw[b8 aa]);rw[j];exact bu.2 bn
def hg (b c:Z) (a:cY):bA:=br (a.2.1<b)||(br (a.2.1=b)&&br (a.1<c))
theorem MM {a c:cY} (d:hy a c) (h:hg e b c=bq):hg e b a=bq:=by
 unfold hg at*;simp only[jx,bk,akt] at*;rcases d with d|⟨f,g⟩
 ·omega
 omega
theorem Oj {j i:Z}:∀{E:bm cY},E.Pairwise hy->E.filter (hg j i)=E.take (E.filter (hg j i)).length
 |[],_=>rfl
 |x::E,b=>by
  obtain⟨d,c⟩:=m7.1 b;by_cases a:hg j i x=bq
  ·rw[GW a,iv,List.take_succ_cons];exact b6 _ (Oj c)
  grind [List.filter_eq_nil_iff,MM,List.filter_cons_of_neg]
theorem Hv {E:bm cY} (d:lw c a E):E.filter (hg 0 0)=[]:=by refine Ch.2 λf e b=>?_;have:=d f e;unfold hg at b;grind
theorem Vt {E:bm cY} (d:lw a c E) (b:Z):E.filter (hg b (a:Z))=E.filter (hg (b+1) 0):=by refine p0 λf e=>?_;have:=d f e;unfold hg;grind
theorem CF {E:bm cY} (d:lw c a E) (b:Z):(E.filter (hg b 0)).length=g3 E b:=by unfold g3;congr 1;refine p0 λf e=>?_;have:=d f e;unfold hg;grind
theorem Hw {j i:Z} {E:bm cY} (c:E.Pairwise hy) (h:a<E.length):hg j i E[a]=bq↔a<(E.filter (hg j i)).length:=by
 constructor
 ·intro b;have g:∀d∈E.take (a+1),hg j i d=bq:=by
   grind [MM,cA,cn,amB]
  grind [akv,ap0,amC,alB]
 intro b;have e:=Oj (j:=j) (i:=i) c;have f:E[a]∈E.filter (hg j i):=(by grind [amB]);grind
theorem Vu {j i:Z} {E:bm cY} (o:E.Pairwise hy):(∃d:(E.filter (hg j i)).length<E.length,E[(E.filter (hg j i)).length].1=i/\E[(E.filter (hg j i)).length].2.1=j/\(E.filter (hg j (i+1))).length=(E.filter (hg j i)).length+1)\/((∀b,(d:b<E.length)->¬(E[b].1=i/\E[b].2.1=j))/\(E.filter (hg j (i+1))).length=(E.filter (hg j i)).length):=by
 have p:∀e:cY,hg j (i+1) e=bq↔hg j i e=bq\/(e.1=i/\e.2.1=j):=λe=>(by unfold hg;grind);have w:∀e:cY,e.1=i/\e.2.1=j->¬hg j i e=bq:=λe k d=>(by simp_all [jx,bk,akt,hg]);generalize C:(E.filter (hg j i)).length=g;generalize D:(E.filter (hg j (i+1))).length=l;have q:∀a,(f:a<E.length)->(hg j i E[a]=bq↔a<g):=λa f=>(by grind [Hw]);have m:∀a,(f:a<E.length)->(hg j (i+1) E[a]=bq↔a<l):=λa f=>(by grind [Hw]);have F:g<=E.length:=(by grind);have G:l<=E.length:=(by grind);by_cases n:∃b,∃d:b<E.length,E[b].1=i/\E[b].2.1=j
 ·obtain⟨b,h,k⟩:=n;have x:¬b<g:=λd=>w _ k ((q b h).2 d);have y:b<l:=(m b h).1 ((p _).2 (.inr k));have r:∀a,(f:a<E.length)->g<=a->a<l->a=b:=λa f A t=>by
   have u:=(p _).1 ((m a f).2 t);have B:E[a].1=i/\E[a].2.1=j:=u.resolve_left λd=>(by grind);rcases sG a b with c|c|c
   ·have:=ik.1 o a b f h c;rcases this with d|⟨d,s⟩<;>omega
   ·exact c
   have:=ik.1 o b a h f c;rcases this with d|⟨d,s⟩<;>omega
  have v:g=b:=r g aa (bd _) aa;subst v;refine .inl ⟨h,k.1,k.2,?_⟩;rcases cT (g+1) l with c|c
  ·grind
  omega
 refine .inr ⟨λb h k=>n ⟨b,h,k⟩,?_⟩;have z:∀a,a<E.length->(a<l↔a<g):=λa f=>(by grind);rcases sG l g with c|c|c
 ·grind
 ·exact c
 grind
def oQ (b:X) (a:cY):X:=a.2.1.toNat*b+a.1.toNat
theorem adA {E:bm cY} (d:lw a c E) {b:cY} (e:b∈E):oQ a b<a*c:=by have f:=d b e;unfold oQ;have g:(b.2.1.toNat+1)*a<=c*a:=iY _ aa;grind
theorem adz {rows:X} {a b:Z×Z} (f:0<=a.1/\a.1<(rows:Z)/\0<=a.2) (g:0<=b.1/\b.1<(rows:Z)/\0<=b.2) (c:a.2.toNat*rows+a.1.toNat=b.2.toNat*rows+b.1.toNat):a.1=b.1/\a.2=b.2:=by have d:(a.2.toNat*rows+a.1.toNat)/rows=a.2.toNat:=(by rw[qb,aoi aa,anf aa,l4]);have e:(b.2.toNat*rows+b.1.toNat)/rows=b.2.toNat:=(by rw[qb,aoi aa,anf aa,l4]);grind
def oC (b:X) (E:bm cY):X->X->Z
 |0,_=>0
 |i+1,a=>if a=oQ b (E.getD i (0,0,0,())) then((i+1:X):Z) else oC b E i a
theorem M5 (c:X) (E:bm cY) (b:X):∀i,(oC c E i b=0/\∀a,a<i->oQ c (E.getD a (0,0,0,()))≠b)\/∃a,a<i/\oQ c (E.getD a (0,0,0,()))=b/\oC c E i b=((a+1:X):Z)
 |0=>.inl ⟨bn,λa e=>absurd e aa⟩
 |i+1=>by
  unfold oC;by_cases d:b=oQ c (E.getD i (0,0,0,()))
  ·grind
  rw[au d];rcases M5 c E b i with⟨f,g⟩|⟨a,f,g,h⟩
  ·grind
  grind
theorem VY (b:X) (E:bm cY) (a:X):eB (oC b E a) (oQ b (E.getD a (0,0,0,()))) ((a+1:X):Z)=oC b E (a+1):=by grind [oC,eB]
theorem Rv (e:c<=200) (d:a<=200) (g:j<=200):ax (ax ((a:Z)*(c:Z))+(j:Z))=((a*c+j:X):Z):=by have f:a*c<=200*200:=m8 d e;have b:(a:Z)*(c:Z)=((a*c:X):Z):=aa;rw[b,B1 aa,<-Int.natCast_add,B1 aa]
theorem IY {E:bm cY} (b:a<E.length):E.getD a (0,0,0,())=E[a]:=by grind
def j4 (E:bm cY) (b a:Z):X:=(E.filter (hg b a)).length
def Rr (E:bm cY) (b a:Z):j4 E b a<=E.length:=lB _ _
def pG (e d:X) (E:bm cY) (a:X) (c:X):da:=((e:Z),(d:Z),az (a+1) (λa=>(g3 E (a:Z):Z)),(E.take c).map (λb=>b.1),(E.take c).map (λb=>b.2.2.1),())
theorem adg {f:X} {E:bm cY} (x:c<=200) (D:f<=200) (T:E.length<=10000) (J:E.Pairwise hy) (k:lw c f E):Ej ((c:Z),(f:Z),E,())=Y (rX c f E,()):=by
 unfold Ej;refine bO.1 ?_;dsimp only;have am:c*f<=200*200:=anh x D;have A:ax ((c:Z)*(f:Z))=((c*f:X):Z):=(by rw[<-ama,B1 aa]);rw[A];refine ae.bs (h0 aa) ?_;have O:g3 E 0=0:=(by rw[<-CF k,Hv k];rfl);refine ae.aJ (P:=λm=>m=(((0:Z),((0:Z),([],([],([],()))))),pG c f E 0 0,az (c*f) (oC c E E.length),())) ?_ ?_
 ·refine ae.steps E.length (λe n=>n=((e:Z),((0:Z),((0:Z),([],([],([],()))))),pG c f E 0 0,az (c*f) (oC c E e),())) ?_ ?_ ?_
  ·have:pG c f E 0 0=((c:Z),((f:Z),([0],(([]:bf),(([]:bf),()))))):=by
    grind [nT,Xn,g3,pG]
   rw[iQ,this];rfl
  ·rintro e _ l rfl;have h:=k E[e] (b3 l);obtain⟨M,R⟩:=cy h.1;obtain⟨N,S⟩:=cy h.2.2.1;dsimp only;rw[aZ (aF (show(e:Z)<al E by grind))];refine ae.bs (eR l) (ae.bs (eR l) ?_);have I:ax (ax (E[e].2.1*(c:Z))+E[e].1)=((oQ c E[e]:X):Z):=by
    grind [Rv,akE,oQ]
   have V:=adA k (cF l);grind [bu,lr,cN,hx,bc,IY,VY]
  rintro _ rfl;dsimp only;rw[aW (aA (show¬((E.length:Z)<al E) by grind))];grind [bu]
 rintro _ rfl;dsimp only;refine ae.aJ (P:=λm=>m=(((0:Z),((0:Z),([],([],([],()))))),rX c f E,())) ?_ (by grind [bu]);refine ae.steps f (λd n=>n=((d:Z),((0:Z),((0:Z),([],([],([],()))))),pG c f E d (j4 E (d:Z) 0),az (c*f) (oC c E E.length),())) ?_ ?_ ?_
 ·have:j4 E ((0:X):Z) 0=0:=by
   unfold j4;grind [Hv]
  grind
 ·rintro d _ F rfl;dsimp only;rw[aZ (aF (aa:(d:Z)<(f:Z)))];refine ae.aJ (P:=λm=>m=(((0:Z),((0:Z),([],([],([],()))))),pG c f E d (j4 E (d:Z) (c:Z)),az (c*f) (oC c E E.length),())) ?_ ?_
  ·refine ae.steps c (λe n=>n=((e:Z),((0:Z),((0:Z),([],([],([],()))))),pG c f E d (j4 E (d:Z) (e:Z)),az (c*f) (oC c E E.length),())) rfl ?_ ?_
   ·rintro e _ l rfl;dsimp only;rw[aZ (aF (aa:(e:Z)<(c:Z))),Rv x aa aa];have I:d*c+e<c*f:=by
     have p:(d+1)*c<=f*c:=iY _ F;grind
    rw[je (by grind [cN]),lJ];have w:=Rr E (d:Z) (e:Z);have q:=Vu (j:=(d:Z)) (i:=(e:Z)) J;change(∃o:j4 E (d:Z) (e:Z)<E.length,E[j4 E (d:Z) (e:Z)].1=(e:Z)/\E[j4 E (d:Z) (e:Z)].2.1=(d:Z)/\j4 E (d:Z) ((e:Z)+1)=j4 E (d:Z) (e:Z)+1)\/((∀u,(o:u<E.length)->¬(E[u].1=(e:Z)/\E[u].2.1=(d:Z)))/\j4 E (d:Z) ((e:Z)+1)=j4 E (d:Z) (e:Z)) at q;rw[show(e:Z)+1=((e+1:X):Z) from by omega] at q;generalize j4 E (d:Z) (e:Z)=z at*;rw[bc aa];have G:∀g,(o:g<E.length)->oQ c E[g]=d*c+e->E[g].1=(e:Z)/\E[g].2.1=(d:Z):=(by intro g o ad;have h:=k E[g] (cF o);exact adz (rows:=c) (a:=(E[g].1,E[g].2.1)) (b:=((e:Z),(d:Z))) ⟨h.1,h.2.1,h.2.2.1⟩ ⟨aa,aa,aa⟩ (by grind [oQ]));rcases M5 c E (d*c+e) E.length with⟨L,av⟩|⟨g,t,y,K⟩
    ·rw[L];rcases q with⟨p,s,B,C⟩|⟨p,s⟩
     ·grind [akE,IY,oQ,absurd]
     rw[aW (aA aa)];grind [bu,ae.bs]
    rw[K];rw[IY t] at y;obtain⟨ay,ap⟩:=G g t y;rcases q with⟨p,s,B,C⟩|⟨p,s⟩
    ·have H:g=z:=by
      rcases sG g z with r|r|r
      ·grind [cA,hy]
      ·exact r
      grind [cA,hy]
     subst H;rw[aZ (aF aa),(aa:((g+1:X):Z)-1=(g:Z)),B1 aa];unfold pG;dsimp only;rw[eS (by grind),bK];have an:E.take (g+1)=E.take g++[E[g]]:=(by simp_all);rw[eR t,bK,eS (by grind),bK,bK];grind [bu]
    grind
   rintro _ rfl;dsimp only;rw[aW (aA (aa:¬((c:Z)<(c:Z))))];grind [bu]
  rintro _ rfl;have w:=Rr E (d:Z) (c:Z);have ao:j4 E (d:Z) (c:Z)=j4 E ((d+1:X):Z) 0:=(by grind [Vt,j4]);have Q:j4 E ((d+1:X):Z) 0=g3 E ((d+1:X):Z):=CF k _;rw[ao] at w|-;unfold pG;dsimp only;have U:al ((E.take (j4 E ((d+1:X):Z) 0)).map λv=>v.1)=(g3 E ((d+1:X):Z):Z):=(by grind);grind [bu,eS,cN,nT,bc]
 rintro _ rfl;dsimp only;rw[aW (aA (aa:¬((f:Z)<(f:Z))))];have ao:j4 E (f:Z) 0=E.length:=(by unfold j4;rw[alB.2];intro v h;have:=k v h;simp_all [Bool.or_eq_true,Bool.and_eq_true,akt,hg]);have:pG c f E f (j4 E (f:Z) 0)=rX c f E:=(by simp_all [cl,cd,pG,rX]);grind [bu]
theorem xd {h:X} {E:bm cY} (g:E.Pairwise hy) (e:lw h c E) (f:a<E.length) (b:Z):E[a].2.1<b↔a<g3 E b:=by have d:=Hw (j:=b) (i:=0) g f;rw[CF e] at d;rw[<-d];have:=e E[a] (cF f);unfold hg;grind
theorem Nk {E:bm cY} (b:lw c a E):g3 E 0=0:=by rw[<-CF b,Hv b];rfl
theorem Nj {E:bm cY} (b:lw c a E):g3 E (a:Z)=E.length:=by unfold g3;rw[mA.2];intro e d;have:=b e d;grind
theorem Xl {b:X->Z} (d:a<c):(az c b).getD a 0=b a:=by grind [gR]
theorem E3 {E:bm cY} (c:a<E.length):(E.map λb=>b.1).getD a 0=E[a].1:=by grind
theorem XV {E:bm cY} (c:a<E.length):(E.map λb=>b.2.2.1).getD a 0=E[a].2.2.1:=by grind
def wv (a:X) (E:bm cY):aj6:=az (a+1) (λb=>(g3 E (b:Z):Z))
theorem ww {E:bm cY} (b:a<=c):(wv c E).getD a 0=(g3 E (a:Z):Z):=Xl aa
theorem HM (E:bm cY) (a:Z):g3 E a<=E.length:=lB _ _
theorem afz {E:bm cY} (i:E.Pairwise hy) (d:lw c a E):gx c a (wv a E) (E.map λj=>j.1) (E.map λj=>j.2.2.1) where
 len:=cN _ _
 first:=by rw[ww (eU _)];grind [Nk]
 mono:=λe k=>by grind [ww,HN]
 last:=by rw[ww (bd _),Nj d,eP]
 val:=by simp
 rng:=λe f k g h=>by rw[ww aa] at g h;have b:f<E.length:=(by grind [HM]);rw[E3 b];have:=d E[f] (cF b);omega
 asc:=λe f k g h=>by rw[ww aa] at g h;have b:f<E.length:=(by grind [HM]);rw[E3 b,E3 aa];have l:=xd i d b (e:Z);have m:=xd i d b ((e+1:X):Z);have n:=xd i d (aa:f-1<E.length) (e:Z);grind [cA,xd,hy]
theorem SP {rows eL:X} {E:bm cY} (c:rows<=200) (b:eL<=200) (f:E.length<=10000) (e:∀a∈E,e3 a.2.2.1):iZ rows eL (wv eL E) (E.map λa=>a.1) (E.map λa=>a.2.2.1) where
 hr:=c
 hc:=b
 hi:=by grind
 hs:=by grind [cN,wv]
 hv:=by grind
 hw:=λg d=>by grind
def Iv (c f:aj6) (d:Z) (b a:X):jj c f d b a=az a λe=>(c.getD (b+e) 0,d,f.getD (b+e) 0,()):=by
 induction a with
 |zero=>rfl
 |succ a g=>rw[jj,g,nT]
theorem WX {E:bm cY} (i:E.Pairwise hy) (h:lw c a E):∀b,b<=a->eG (wv a E) (E.map λf=>f.1) (E.map λf=>f.2.2.1) b=E.take (g3 E (b:Z)):=by
 intro b
 induction b with
 |zero=>
  intro _;show[]=E.take (g3 E 0);grind [Nk]
 |succ b q=>
  intro t;rw[eG,q aa,ww aa,ww aa,Iv,fU,fU];have n:g3 E ((b+1:X):Z)=g3 E (b:Z)+jE E (b:Z):=(by grind [HN]);have o:=HM E ((b+1:X):Z);have j:∀d,(e:d<E.length)->g3 E (b:Z)<=d->d<g3 E ((b+1:X):Z)->E[d].2.1=(b:Z):=λd e l m=>(by have r:=xd i h e (b:Z);have s:=xd i h e ((b+1:X):Z);omega);rw[n] at j o|-;generalize g3 E (b:Z)=k at*;generalize jE E (b:Z)=g at*;rw[sF,List.take_add];congr 1;have p:((E.drop k).take g).length=g:=(by grind);refine amo (by rw[cN,p]) λu l m=>?_;grind [lJ,E3,XV,cN]
def N8 {E:bm cY} (e:E.Pairwise hy) (d:lw c a E):eG (wv a E) (E.map λb=>b.1) (E.map λb=>b.2.2.1) a=E:=by rw[WX e d a (bd _),Nj d,fN (bd _)]
theorem Xv {E:bm cY} (b:∀a∈E,cE a.2.2.1≠2047):oi (E.map λa=>a.2.2.1):=by intro d c;grind
def Nb {E:bm cY} (f:E.Pairwise hy) (e:lw c a E) (d:∀b∈E,cE b.2.2.1≠2047):hH c a (wv a E) (E.map λb=>b.1) (E.map λb=>b.2.2.1)=0:=
 kM.2 ⟨afz f e,Xv d⟩
theorem tj (e:gx c a d f g):lw c a (eG d f g a):=by intro n h;obtain⟨b,i,h⟩:=Bd.1 h;obtain⟨j,k,rfl⟩:=vQ.1 h;have l:=e.pos b aa;have m:=e.pos (b+1) aa;have:=e.rng b ((d.getD b 0).toNat+j) i aa aa;grind
theorem vy (b:gx c a g f d) {i:Z->Prop} (m:∀k∈d,i k):∀j∈eG g f d a,i j.2.2.1:=by intro j h;obtain⟨e,l,h⟩:=Bd.1 h;obtain⟨s,n,rfl⟩:=vQ.1 h;have q:=b.pos e aa;have r:=b.pos (e+1) aa;have o:=b.qG (e+1) aa;have p:=b.val;grind
theorem IF (b:oi d):∀a∈d,cE a≠2047:=by intro a e;obtain⟨f,c,rfl⟩:=g1.1 e;have:=b f c;grind
def tH (a:cY):bA:=br (a.1>=a.2.1)
def g6 (E:bm cY):bm cY:=E.filter tH
def Ba {E:bm cY} (a:E.Pairwise hy):(g6 E).Pairwise hy:=apq uy a
def A9 {E:bm cY} (b:lw c a E):lw c a (g6 E):=λe d=>b e (hU.1 d).1
def Zf {E:bm cY}:∀a∈g6 E,a.2.1<=a.1:=λa b=>by have:=(hU.1 b).2;unfold tH at this;simpa using this
def Ta {b:m->bA} {E:bm m} (d:a<E.length):(E.take (a+1)).filter b=(E.take a).filter b++(if b E[a]=bq then[E[a]] else[]):=by
 rw[jT,bi d,o5];congr 1;show[E[a]].filter b=_;by_cases c:b E[a]=bq
 ·rw[aw c,GW c];rfl
 rw[au c,GV c];rfl
def JS:∀(a:aj5) (b:X),a.Pairwise (· < ·)->(∀x∈a,x<b)->a.length<=b
 |[],_,_,_=>eU _
 |x::a,b,i,d=>by
  obtain⟨c,j⟩:=m7.1 i;have p:=d x ac;have:=JS (a.map λf=>f-(x+1)) (b-(x+1)) (by
   rw[ou];refine sw ?_ j;intro h m k o n;have:=c h k;omega) (by
   intro f l;obtain⟨g,e,rfl⟩:=eQ.1 l;have:=c g e;have:=d g (by simp[e]);omega)
  rw[eP] at this;rw[iv];omega
def J2 (a:Z):Z:=if a=0 then 0 else if a=1 then 5 else if a=2 then 9 else if a=3 then 12 else if a=4 then 14 else 15
def Zh (s:a<=6) {E:bm cY} (o:E.Pairwise hy) (c:lw a a E) (d:∀b∈E,b.2.1<=b.1):E.length<=21:=by
 have m:=JS (E.map λb=>(J2 b.2.1+b.1).toNat) 21 (by
  rw[ou];refine sw ?_ o;intro e f g h n;have k:=c e g;have q:=c f h;have l:=d e g;have r:=d f h;unfold hy at n;unfold J2;split<;>split<;>(try split)<;>(try split)<;>(try split)<;>(try split)<;>(try split)<;>(try split)<;>(try split)<;>(try split)<;>omega) (by
  intro t p;obtain⟨j,i,rfl⟩:=eQ.1 p;have k:=c j i;have l:=d j i;unfold J2;split
  ·omega
  split
  ·omega
  split
  ·omega
  split
  ·omega
  split<;>omega)
 rwa[eP] at m
structure m3 (n:X) (st iA nB:aj6):Prop where
 Bh:n<=7
 el:(g6 (eG st iA nB n)).length<=21
def m3.aae (c:a<=6) (b:hH a a f d g=0):m3 a f d g:=
 ⟨aa,c4 (Zh c (Ba (tk (kM.1 b).1 a (bd _))) (A9 (tj (kM.1 b).1)) Zf) ab⟩
def m3.J0 (c:a<=5) (b:hH a a f d g=0):m3 a f d g:=m3.aae (c4 c ab) b
def Ui (j:m3 a f d g) (b:iZ a a f d g) (l:hH a a f d g=0):DD (((a:Z),(a:Z),f,d,g,()),())=Y (rX a a (g6 (eG f d g a)),0,()):=by
 have h:=(kM.1 l).1;have m:=tk h a (cd _);have n:=tj h;have s:=j.el;have t:=j.Bh;have r:(eG f d g a).length<=10000:=(by rw[AL h a (cd _)];have:=h.qG a (cd _);have:=b.hi;omega);unfold DD;refine ai b.check ?_;dsimp only;rw[l,fL,aF bn];refine ai (Iw h b.hc b.hi) ?_;dsimp only;generalize eG f d g a=E at*;refine bO.1 ?_;refine ae.aJ (P:=λo=>o=(((0:Z),((0:Z),([],([],([],()))))),g6 E,())) ?_ ?_
 ·refine ae.steps E.length (λc p=>p=((c:Z),((0:Z),((0:Z),([],([],([],()))))),g6 (E.take c),E,())) rfl ?_ ?_
  ·rintro c _ k rfl;dsimp only;rw[aZ (aF (show(c:Z)<al E by simp only[a7];omega)),je k,bc aa];have q:(g6 (E.take c)).length<=10000:=cw (aky _ _) (by rw[akv];omega);unfold g6 at*;rw[Ta k];by_cases i:tH E[c]=bq
   ·have e:=i;unfold tH at e;rw[aZ e,aw i,eS (by simp only[iv,p5];omega)];exact bu.2 bn
   have e:=i;unfold tH at e;rw[aW (by simpa using e),au i,oq];exact bu.2 bn
  rintro _ rfl;dsimp only;rw[aW (aA (show¬((E.length:Z)<al E) by simp only[a7];omega)),cl (cd _)];exact bu.2 bn
 rintro _ rfl;dsimp only;exact ae.bs (VK b.hr b.hc aa (Ba m) (A9 n)) (bu.2 bn)
def RL (k:m3 a f d g) (e:iZ a a f d g) (j:hH a a f d g=0):vl (((a:Z),(a:Z),f,d,g,()),())=Y (rX a a (g6 (eG f d g a)),0,()):=by
 have i:=(kM.1 j).1;have m:=tk i a (cd _);have n:=tj i;have s:=k.el;have t:=k.Bh;have r:(eG f d g a).length<=10000:=(by rw[AL i a (cd _)];have:=i.qG a (cd _);have:=e.hi;omega);unfold vl;refine ai e.yB ?_;dsimp only;rw[j,fL,aF bn];refine ai (RK e j) ?_;dsimp only;generalize eG f d g a=E at*;refine bO.1 ?_;refine ae.aJ (P:=λo=>o=(((0:Z),((0:Z),([],([],([],()))))),g6 E,())) ?_ ?_
 ·refine ae.steps E.length (λb p=>p=((b:Z),((0:Z),((0:Z),([],([],([],()))))),g6 (E.take b),())) rfl ?_ ?_
  ·rintro b _ l rfl;dsimp only;rw[aZ (aF (show(b:Z)<al E by simp only[a7];omega)),eR l,bc aa];have q:(g6 (E.take b)).length<=10000:=cw (aky _ _) (by rw[akv];omega);unfold g6 at*;rw[Ta l];by_cases h:tH E[b]=bq
   ·have c:=h;unfold tH at c;rw[aE,aE,aZ c,aw h,aE,eS (by simp only[iv,p5];omega)];exact bu.2 bn
   have c:=h;unfold tH at c;rw[aE,aE,aW (by simpa using c),au h,oq];exact bu.2 bn
  rintro _ rfl;dsimp only;rw[aW (aA (show¬((E.length:Z)<al E) by simp only[a7];omega)),cl (cd _)];exact bu.2 bn
 rintro _ rfl;dsimp only;exact ae.bs (adg e.hr e.hc aa (Ba m) (A9 n)) (bu.2 bn)
def kf (b:et) (a:aj6):er:=(bJ a.length).map λ(c:X)=>(bJ a.length).map λ(d:X)=>br (a.getD d 0∈b.getD (a.getD c 0).toNat [])
theorem x1 (b:et) (a:aj6):(kf b a).length=a.length:=by simp[kf]
theorem Hy (b:a<d.length) (e:c<d.length):hF (kf i d) a c=br (d.getD c 0∈i.getD (d.getD a 0).toNat []):=by grind [alc,hF,kf]
theorem afL (g:0<=b/\b<i.length) (h:0<=e/\e<i.length):∃a,ar (oX i) b=Y a/\ar a e=Y (br (e∈i.getD b.toNat [])):=by
 have d:b.toNat<i.length:=aa;have f:e.toNat<i.length:=aa;refine⟨(bJ i.length).map λ(c:X)=>br ((c:Z)∈i[b.toNat]),?_,?_⟩
 ·simp_all [aw,S9,ar]
 unfold ar;grind
theorem Ue (B:fu i) (w:∀d∈i,d.length<4611686018427387904) (G:i.length<=200) (s:∀m∈d,0<=m/\m<(i.length:Z)) (D:d.Nodup) (R:d.length<=400):En ((i,()),d,())=Y ((jZ (kf i d),()),0,()):=by
 classical
 rw[<-bO];unfold En;have C:i7 i=0:=(by simp_all [au,aw,i7]);have ao:br (∀m∈d,0<=m/\m<(i.length:Z))=bq:=akb s;have A:br (¬d.Nodup)=bp:=akC (λb=>b D);simp only[KN i w,C,Ut d _ aa,ao,UB d aa,A,L9 w G (λg K=>(B.asc g K).2),N1 d.length aa,aE,aoh,bP,ir];simp only[bZ];refine cx (P:=λu=>u.2.1=kf i d) ?_ ?_
 ·refine ae.for (i0:=0) d.length (λa v=>v.2.1=(bJ d.length).map λ(g:X)=>if g<a then(kf i d).getD g [] else bI d.length bp) rfl ?_ (eU _) ?_ ?_
  ·apply ij;grind
  ·rintro a ⟨x,o,_⟩ _ j e;simp only at e;simp only[b0,bZ];refine⟨λ_=>?_,λp=>by grind⟩;refine cx (P:=λu=>u.2.1=(bJ d.length).map λ(g:X)=>if g<a+1 then(kf i d).getD g [] else bI d.length bp) ?_ (by grind [jg,bu]);refine ae.for (i0:=0) d.length (λc v=>v.2.1=o.set a ((bJ d.length).map λ(h:X)=>if h<c then hF (kf i d) a h else bp)) rfl ?_ (eU _) ?_ ?_
   ·show o=_;apply ij;intro f;rw[zd];by_cases l:a=f
    ·subst l;rw[aw bn,e];simp[j,List.map_const']
    grind
   ·rintro c ⟨O,n,_⟩ _ r k;simp only at k;have L:=s _ (cF j);have M:=s _ (cF r);obtain⟨N,H,I⟩:=afL L M;have S:n.length=d.length:=(by grind);have q:a<n.length:=aa;have J:n[a]=(bJ d.length).map λ(h:X)=>if h<c then hF (kf i d) a h else bp:=by
     grind
    have E:ar d (a:Z)=Y d[a]:=gg (bi j);have F:ar d (c:Z)=Y d[c]:=gg (bi r);simp only[b0,bZ,ae.E8,E,F,H,I,bu,ae.CC,ae.JG,fU];refine⟨λ_=>⟨⟨aa,q⟩,q,⟨aa,by grind⟩,q,by grind,jg aa,?_⟩,λp=>by grind⟩;rw[J,k,List.set_set];congr 1;apply ij;intro f;rw[zd,jQ,jQ];rcases cT f d.length with b|b
    ·rw[Ci b];simp only[ji,eP,o6];by_cases l:c=f
     ·subst l;have y:d.getD c 0=d[c]:=(by grind);have z:d.getD a 0=d[a]:=(by grind);rw[aw bn,aw b,aw aa,Hy j r,y,z]
     grind
    grind
   rintro⟨O,n,_⟩ k;simp only at k;simp only[b0,bu];refine⟨λp=>by grind,λ_=>?_⟩;rw[k,e];apply ij;intro f;rw[zd,jQ,jQ];rcases cT f d.length with b|b
   ·rw[Ci b];simp only[ji,eP,o6];by_cases l:a=f
    ·subst l;rw[aw bn,aw b,aw aa];congr 1;have:(kf i d).getD a []=(bJ d.length).map λ(h:X)=>hF (kf i d) a h:=by
      have Q:(kf i d).getD a []=(bJ d.length).map λ(c:X)=>br (d.getD c 0∈i.getD (d.getD a 0).toNat []):=(by simp[kf,alc,j]);grind [Hy,aks]
     simp_all
    grind
   grind
  rintro⟨x,o,_⟩ e;simp only at e;simp only[b0,bu];refine⟨λp=>by grind,λ_=>?_⟩;rw[e];apply ij;intro f;rw[jQ];rcases cT f d.length with b|b
  ·simp_all [aw,bi,x1,ji,Ci,alc]
  grind [alM,x1]
 rintro⟨x,o,_⟩ e;simp only at e;subst e;rw[LQ]
 ·grind [bu]
 ·intro N t;unfold kf at t;simp only[eQ] at t;obtain⟨a,_,rfl⟩:=t;simp[kf]
 grind [x1]
section
inductive i4 (A:X->X->Prop) (P:X->Prop):X->X->Prop
 |one {i j:X}:A i j->i4 A P i j
 |step {i m j:X}:A i m->P m->i4 A P m j->i4 A P i j
section
variable {A:X->X->Prop} {P:X->Prop}
theorem i4.trans (b:i4 A P c a) (e:P a) (d:i4 A P a j):i4 A P c j:=by
 induction b with
 |one b=>exact .step b e d
 |step b f _ g=>exact .step b f (g e d)
def i4.symm (f:∀d e,A d e->A e d) (b:i4 A P a c):i4 A P c a:=by
 induction b with
 |one b=>exact .one (f _ _ b)
 |step b g _ h=>exact h.trans g (.one (f _ _ b))
theorem i4.mono (f:∀d,P d->q d) (b:i4 A P a c):i4 A q a c:=by
 induction b with
 |one b=>exact .one b
 |step b e _ g=>exact .step b (f _ e) g
def i4.insert_iff:i4 A (λf=>P f\/f=j) a c↔i4 A P a c\/(i4 A P a j/\i4 A P j c):=by
 constructor
 ·intro b
  induction b with
  |one b=>exact .inl (.one b)
  |@step a m c b g _ d=>
   rcases g with g|rfl
   ·rcases d with d|⟨l,h⟩
    ·exact .inl (.step b g d)
    exact .inr ⟨.step b g l,h⟩
   rcases d with d|⟨_,h⟩
   ·exact .inr ⟨.one b,d⟩
   exact .inr ⟨.one b,h⟩
 rintro(b|⟨i,k⟩)
 ·exact b.mono λf e=>.inl e
 exact(i.mono λf e=>.inl e).trans (.inr bn) (k.mono λf e=>.inl e)
def i4.none:i4 A (λ_=>b4) a c↔A a c:=by
 constructor
 ·intro b;cases b with
  |one b=>exact b
  |step _ b _=>exact b.elim
 exact .one
theorem TG:rq A j a c↔i4 A (λf=>f<j) a c:=by
 constructor
 ·intro b
  induction b with
  |one b=>exact .one b
  |step b d _ e=>exact .step b d e
 intro b
 induction b with
 |one b=>exact .one b
 |step b d _ e=>exact .step b d e
end
end
section
theorem afo:∀{b a:aj6},b.Pairwise (· < ·)->a.Pairwise (· < ·)->(∀c,c∈b↔c∈a)->b=a:=by
 intro b
 induction b with
 |nil=>
  intro a _ _ d;cases a with
  |nil=>rfl
  |cons e a=>grind [alY]
 |cons c b h=>
  intro a f g d;cases a with
  |nil=>grind
  |cons e a=>
   grind [alY,amc]
structure y7 (nh:et) (S:X->Prop) (T:er) (gone:aj2):Prop where
 Gu:T.length=nh.length
 rows:∀v,(h:v<T.length)->T[v].length=nh.length
 vE:gone.length=nh.length
 OH:∀v,(h:v<gone.length)->(gone[v]=bq↔S v)
 Lk:∀u w,(ag9:u<T.length)->(hw:w<T[u].length)->¬S u->¬S w->(T[u][w]=bq↔u≠w/\i4 (j9 nh) S u w)
def lN (b:er) (c:aj2) (e d:X):aj6:=((bJ d).filter λa=>hF b e a&&!c.getD a bp).map λ(a:X)=>(a:Z)
theorem JI (a:y7 i q n r) {v w:X} (k:v<i.length) (f:¬q v):(w:Z)∈lN n r v i.length↔w<i.length/\¬q w/\v≠w/\i4 (j9 i) q v w:=by
 unfold lN;simp only[eQ,hU,gD,bk,uo];have l:∀w,w<i.length->((hF n v w=bq/\r.getD w bp=bp)↔¬q w/\v≠w/\i4 (j9 i) q v w):=by
  intro w g;have d:v<n.length:=(by rw[a.Gu];exact k);have e:w<n[v].length:=(by rw[a.rows v d];exact g);have h:w<r.length:=(by rw[a.vE];exact g);have j:r.getD w bp=r[w]:=(by grind);rw[xf d e,j,Bool.eq_false_iff,ne_eq,a.OH w h];constructor
  ·rintro⟨b,c⟩;exact⟨c,(a.Lk v w d e f c).1 b⟩
  rintro⟨b,c⟩;exact⟨(a.Lk v w d e f b).2 c,b⟩
 grind
theorem JT (b:er) (c:aj2) (d a:X):(lN b c d a).length<=a:=by grind [cw,aky,cg,lN]
theorem JU (e:b∈lN n r c a):∃d:X,b=(d:Z)/\d<a:=by grind [lN]
theorem L1 (l:n.length=c) (w:∀a,(e:a<n.length)->n[a].length=c) (o:r.length=c) (u:c<=4294967296) (x:a<c):AC (Y (n,r,()),(a:Z),())=Y (lN n r a c,()):=by
 rw[<-bO];unfold AC;have t:hJ=4294967296:=rfl;simp only[bZ,bu];refine cx (P:=λd=>d.1=lN n r a c) ?_ (by grind);refine ae.for (i0:=0) c (λi k=>k.1=lN n r a i) rfl rfl (eU _) ?_ ?_
 ·rintro b ⟨j,_⟩ _ y f;simp only at f;have v:=JT n r a b;simp only[aE];rw[b0];refine⟨λ_=>?_,λm=>by grind⟩;rw[bZ,bZ];have g:a<n.length:=aa;have h:b<n[a].length:=(by grind);have p:ar n (a:Z)=Y n[a]:=gg (bi g);have q:ar n[a] (b:Z)=Y n[a][b]:=gg (bi h);have s:ar r (b:Z)=Y (r.getD b bp):=gg (by grind);refine cx (P:=λd=>d=((hF n a b&&!r.getD b bp),j,())) ?_ ?_
  ·simp_all [bZ,b0,bu,xf]
  rintro _ rfl;simp only[b0,bZ,bu,alP];refine⟨λe=>⟨by grind,jg aa,?_⟩,λe=>⟨jg aa,?_⟩⟩
  ·simp_all [aw,lZ,ani,jB,o5,jR,lN]
  simp_all [jB,o5,jR,lZ,ani,au,lN]
 simp_all [aE,b0,bu]
theorem Vx (e:a<n.length) (f:c<n[a].length) (b d:X):hF (n.set a (n[a].set c bq)) b d=(hF n b d||(b==a&&d==c)):=by grind [hF]
theorem P9 (a:er) (b:aj2) (d c:X):(lN a b d c).Pairwise (· < ·):=K1 _ _
theorem T3 (K:n.length=a) (O:∀c,(g:c<n.length)->n[c].length=a) (ap:r.length=a) (av:a<=4294967296) (a0:c<a):ae (AB ((n,r,()),(c:Z),())) (λq=>q.1.2.1=r.set c bq/\q.1.1.length=a/\(∀c,(g:c<q.1.1.length)->q.1.1[c].length=a)/\∀d b,d<a->b<a->(hF q.1.1 d b=bq↔hF n d b=bq\/((d:Z)∈lN n r c a/\(b:Z)∈lN n r c a/\d≠b))):=by
 unfold AB;simp only[L1 K O ap av a0,aE];have am:=JT n r c a;have E:∀I∈lN n r c a,∃b:X,I=(b:Z)/\b<a:=λI Q=>JU Q;have an:=P9 n r c a;generalize lN n r c a=f at am E an;have a3:∀l m:X,(g:l<f.length)->(ad:m<f.length)->f[l]=f[m]->l=m:=λl m g ad J=>by
  rcases sG l m with C|C|C
  ·grind [cA]
  ·exact C
  grind [cA]
 simp only[bZ];refine cx (P:=λe:dI×bt=>e.1.2.1=r/\e.1.1.length=a/\(∀c,(g:c<e.1.1.length)->e.1.1[c].length=a)/\∀d b,d<a->b<a->(hF e.1.1 d b=bq↔hF n d b=bq\/((d:Z)∈f/\(b:Z)∈f/\d≠b))) ?_ ?_
 ·refine ae.for (i0:=0) f.length (λh e=>e.1.2.1=r/\e.1.1.length=a/\(∀c,(g:c<e.1.1.length)->e.1.1[c].length=a)/\∀d b,d<a->b<a->(hF e.1.1 d b=bq↔hF n d b=bq\/((d:Z)∈f.take h/\(b:Z)∈f/\d≠b))) rfl ⟨bn,K,O,λd b _ _=>by simp⟩ (eU _) ?_ ?_
  ·rintro h ⟨⟨R,S,_⟩,_⟩ _ H ⟨s,t,u,D⟩;simp only at s t u D;simp only[b0,bZ];refine⟨λ_=>?_,λM=>by grind⟩;refine cx (P:=λe:dI×bt=>e.1.2.1=r/\e.1.1.length=a/\(∀c,(g:c<e.1.1.length)->e.1.1[c].length=a)/\∀d b,d<a->b<a->(hF e.1.1 d b=bq↔hF n d b=bq\/((d:Z)∈f.take (h+1)/\(b:Z)∈f/\d≠b))) ?_ (by grind [jg,bu]);obtain⟨j,L,bl⟩:=E _ (cF H);refine ae.for (i0:=0) f.length (λk e=>e.1.2.1=r/\e.1.1.length=a/\(∀c,(g:c<e.1.1.length)->e.1.1[c].length=a)/\∀d b,d<a->b<a->(hF e.1.1 d b=bq↔hF n d b=bq\/((d:Z)∈f.take h/\(b:Z)∈f/\d≠b)\/(d=j/\(b:Z)∈f.take k/\d≠b))) rfl ⟨s,t,u,λd b x y=>by grind⟩ (eU _) ?_ ?_
   ·rintro k ⟨⟨A,T,_⟩,_⟩ _ w ⟨i,o,p,z⟩;simp only at i o p z;obtain⟨B,F,bs⟩:=E _ (cF w);have U:ar f (h:Z)=Y (j:Z):=gg (by rw[bi H,L]);have V:ar f (k:Z)=Y (B:Z):=gg (by rw[bi w,F]);have v:j<A.length:=aa;have G:B<A[j].length:=(by grind);simp only[b0,bZ,U,V,bu,ae.E8,ae.CC,ae.JG,fU];refine⟨λ_=>⟨λN=>⟨⟨aa,v⟩,v,⟨aa,G⟩,v,G,jg aa,i,by grind,λI Q=>?_,λd b x y=>?_⟩,λbx=>⟨jg aa,i,o,p,λd b x y=>?_⟩⟩,λM=>by grind⟩
    ·rw[apr];grind
    ·have N:h≠k:=(by grind);have a4:j≠B:=λJ=>N (a3 h k H w (by rw[L,F,J]));rw[Vx v G,jx,z d b x y,<-ug w,F,hn,gp];grind
    grind [ug,akc]
   rintro⟨⟨A,T,_⟩,_⟩ ⟨i,o,p,z⟩;simp only at i o p z;simp only[b0,bu];refine⟨λM=>by grind,λ_=>⟨i,o,p,λd b x y=>?_⟩⟩;grind [cB,ug,akc]
  rintro⟨⟨R,S,_⟩,_⟩ ⟨s,t,u,D⟩;simp only at s t u D;simp only[b0,bu];grind
 grind [bZ,ae.E8,ae.CC,bu,ae.JG,akE]
theorem T2 (F:fu i) (G:i.length<=4294967296) (b:y7 i q n r) (k:a<i.length) (s:¬q a):ae (AB ((n,r,()),(a:Z),())) (λB=>y7 i (λg=>q g\/g=a) B.1.1 B.1.2.1):=by
 refine(T3 b.Gu b.rows b.vE G k).mono ?_;rintro⟨⟨M,h,_⟩,_⟩ ⟨l,m,o,p⟩;simp only at l m o p|-;subst l;have v:=j9.symm F;refine⟨m,o,by rw[ams];exact b.vE,λg N=>?_,λc e H I t u=>?_⟩
 ·rw[apr];by_cases J:a=g
  ·grind
  rw[au J,b.OH];grind
 have w:c<i.length:=aa;have y:e<i.length:=(by grind);have:=p c e w y;rw[xf H I] at this;have j:c<n.length:=(by rw[b.Gu];omega);have x:e<n[c].length:=(by rw[b.rows c j];omega);have z:¬q c:=λd=>t (.inl d);have A:¬q e:=λd=>u (.inl d);have K:a≠c:=λd=>t (.inr d.symm);have L:a≠e:=λd=>u (.inr d.symm);rw[this,xf j x,b.Lk c e j x z A,JI b k s,JI b k s,i4.insert_iff];constructor
 ·rintro(⟨h,f⟩|⟨⟨_,_,_,f⟩,⟨_,_,_,D⟩,E⟩)
  ·grind
  exact⟨E,.inr ⟨f.symm v,D⟩⟩
 rintro⟨h,f|⟨f,C⟩⟩
 ·grind
 exact .inr ⟨⟨w,z,K,f.symm v⟩,⟨y,A,L,C⟩,h⟩
theorem TT (e:fu i) (k:∀n∈i,n.length<4611686018427387904) (l:i.length<=200):ae (Eo ((i,()),())) (λg=>y7 i (λ_=>b4) g.1.1 g.1.2.1):=by
 unfold Eo;have o:hJ=4294967296:=rfl;simp only[L9 k l (λc m=>(e.asc c m).2),aE,bZ,ae.JF,bu,fU];refine⟨⟨aa,aa,aa⟩,Lg i,λc j=>?_,ac,λc j=>by simp,λb d p q _ _=>?_⟩
 ·simp[oX]
 rw[i4.none];have f:b<i.length:=(by grind [Lg]);have r:d<i.length:=(by grind [oX]);have h:(oX i)[b][d]=br ((d:Z)∈i[b]):=(by grind [oX,alc]);rw[h,akt];constructor
 ·exactλa=>⟨j9.ne e ⟨f,a⟩,f,a⟩
 exactλa=>a.2.2
open Classical in
theorem aet (j:fu i) (k:∀s∈i,s.length<4611686018427387904) (p:i.length<=200):AD ((i,()),())=Y ((bJ i.length).map (g4 i),0,()):=by
 rw[<-bO];unfold AD;have A:hJ=4294967296:=rfl;have n:i7 i=0:=(by simp_all [au,aw,i7]);simp only[KN i k,n,aE,aoh,bP];simp only[bZ];refine(TT j k p).mono ?_;rintro⟨⟨f,g,_⟩,_⟩ c;simp only at c;simp only[bZ];refine cx (P:=λt=>t.1=(bJ i.length).map (g4 i)) ?_ (by grind [bu]);refine ae.for (i0:=0) i.length (λa h=>h.2.1=(bJ a).map (g4 i)/\y7 i (λl=>l<a) h.1.1 h.1.2.1) rfl ⟨bn,?_⟩ (eU _) ?_ ?_
 ·grind
 ·rintro a ⟨⟨f,g,_⟩,C,_⟩ _ e ⟨q,c⟩;simp only at q c;have B:=JT f g a i.length;have y:[(a:Z)]++lN f g a i.length=g4 i a:=by
   have o:=λd=>JI c (v:=a) (w:=d) e (wV a);refine afo ?_ (Nr i a) ?_
   ·rw[zh,m7];grind [JU,P9]
   intro l;constructor
   ·intro b;rw[zh,fC] at b;rcases b with rfl|b
    ·exact vP.2 ⟨e,.inl bn⟩
    obtain⟨d,rfl,_⟩:=JU b;have:=(o d).1 b;exact vP.2 ⟨this.1,.inr ⟨aa,TG.2 this.2.2.2⟩⟩
   intro b;rw[zh,fC];have r:=b;unfold g4 uZ at b;simp only[eQ] at b;obtain⟨d,_,rfl⟩:=b;obtain⟨u,m|⟨m,x⟩⟩:=vP.1 r
   ·omega
   grind [TG]
  rw[b0];refine⟨λ_=>?_,λz=>by grind⟩;simp only[L1 c.Gu c.rows c.vE (aa:i.length<=4294967296) e,aE,bZ,alP];refine⟨by grind,by grind,?_⟩;refine(T2 j aa c e (wV a)).mono ?_;grind [akD,jg,bu]
 simp_all [b0,bu]
end
def Vm (c:d.Pairwise (· < ·)) (e:∀g∈d,0<=g):∀a,(b:a<d.length)->(a:Z)<=d[a]:=by
 intro a
 induction a with
 |zero=>intro b;exact e _ (cF b)
 |succ a f=>
  intro b;have h:=f aa;have i:=Bs.1 c a b;omega
def q6.length {a:aj6} {c:X} (b:q6 a c):a.length<=c:=by
 rcases rk a.length with d|d
 ·omega
 have g:=Vm b.1 (λf e=>(b.2 f e).1) (a.length-1) aa;have h:=(b.2 _ (cF (aa:a.length-1<a.length))).2;omega
def fu.rows (b:fu i):∀a∈i,a.length<=i.length:=by intro a c;obtain⟨e,d,rfl⟩:=g1.1 c;exact(b.asc e d).length
def fu.hc (b:fu i) (d:i.length<=200):∀a∈i,a.length<4611686018427387904:=λa c=>by have:=b.rows a c;omega
def uV:i7 i=0↔i.length<=200/\fu i:=by
 unfold i7;by_cases a:200<i.length
 ·rw[aw a];constructor
  ·intro a;omega
  intro a;omega
 rw[au a];by_cases b:fu i
 ·rw[aw b];exact⟨λ_=>⟨aa,b⟩,λ_=>rfl⟩
 rw[au b];exact⟨λa=>by omega,λa=>absurd a.2 b⟩
def Rk (a:et) (b:X):Z:=((g4 a b)[1]?).getD (-1)
section
def Ni (P:X->Prop):X->X
 |0=>0
 |k+1=>Ni P k+(open Classical in if P k then 1 else 0)
section
variable {P Q:X->Prop} {k:X}
end
def G0 (n:X) (f:X->Z):Prop:=∀a,a<n->f a=-1\/((a:Z)<f a/\f a<n)
def Uu (n:X) (f:X->Z) (a b:X):Prop:=a<n/\f a=(b:Z)
def Sub (n:X) (f:X->Z) (a b:X):Prop:=Cv (Uu n f) a b
section
variable {n:X} {f:X->Z} (A:G0 n f)
include A
def hl (n:X) (f:X->Z) (b:X):X:=Ni (λa=>Sub n f a b) n
def TW (n:X) (f:X->Z):Prop:=∀a,a<n->∀b,Sub n f b a->a<b+hl n f a
end
end
section
section
variable {B:et} (C:fu B) (A:B.length<=200)
include C A
end
def Z7 (b:aj6) (n a:X):Z:=(b[a+1]?).getD n
section
variable {n:X} {f:X->Z} (D:G0 n f) (A:n<=200)
include D A
end
end
section
theorem Wa (A:et) (a:X):(g4 A a).length<=A.length:=V8 A a A.length
section
variable {A:et} (B:fu A) (C:A.length<=200)
include B C
end
end
section
section
variable {A:et} (B:fu A) (C:A.length<=200)
include B C
theorem aeu:AD ((A,()),())=Y (az A.length (g4 A),0,()):=aet B (B.hc C) C
end
end
section
structure L4 (n:X) (f:X->Z) (K6:aj6) (m:X) (s e:X->X):Prop where
 len:K6.length=m
 st:K6=az m λk=>(s k:Z)
 Sv:0<n->0<m/\s 0=0
 aha:n=0->m=0
 ok:∀k,k<m->s k<e k/\e k<=n/\e k<=s k+hl n f (e k-1)
 aM:∀k,k<m->Z7 K6 n k=(e k:Z)
 agX:∀k,k+1<m->e k=s (k+1)
 el:∀k,k+1=m->e k=n
section
variable {A:et} (B:fu A) (C:A.length<=200)
include B C
end
end
section
def iB (s:X->X) (a:X):X->Z
 |0=>-1
 |k+1=>if s k<=a then(k:Z) else iB s a k
abbrev eD:=Z×dP
section
variable {n:X} {f:X->Z} {B:aj6} {m:X} {s e:X->X} (C:L4 n f B m s e)
include C
end
section
variable {A:et} (D:fu A) (F:A.length<=200)
include D F
end
end
def Ul:∀a:X,a<201->DB (1,(a:Z),())=Y (0,(a:Z),()):=by unfold DB;decide+kernel
def Ux (c:Z) (t:0<a) (u:a<=200):DP ([c],(a:Z),())=Y (bI a c,()):=by
 unfold DP;have ao:bD.wrap (a:Z)=(a:Z):=(by rw[TI];omega);have m:bD.wrap ((1:X):Z)=1:=(by rw[TI];rfl);have r:¬((a:Z)<0):=aa;have p:¬((a:Z)>9223372036854775807):=aa;simp only[c3,au r,aE,H4,ao,m,Ul a aa,CR,(aa:¬((0:Z)>0)),if_false,aA p,bP,GJ (aa:a<9223372036854775808),h0 (aa:a<=4294967296),sC,rj,amZ];rw[<-bO];refine ae.aJ (P:=λl=>l.1=bI a c) ?_ (by rintro⟨l,⟨⟩⟩ g;simp only at g;subst g;exact bu.2 bn);have s:∀b:X,b<=a->bI b c++bI (a-b) 0=az a (λd=>if d<b then c else 0):=λb i=>(by rw[iQ,iQ,AN];have:b+(a-b)=a:=aa;rw[this]);refine akn (λf=>∃b:X,f.1=(b:Z)/\0<b/\b<=a/\f.2.1=az a (λd=>if d<b then c else 0)) (λf=>a-f.1.toNat) ⟨1,?_,aa,aa,?_⟩ ?_
 ·show((min 1 a:X):Z)=1;rw[hN aa];rfl
 ·show jF (bI a 0) [c] 0 a=_;unfold jF;rw[hN (show[c].length<=a-0 by simp;omega),alV,fN (show[c].length<=a-0 by simp;omega),ho,apg,iQ];show[c]++az (a-1) (λ_=>0)=_;have:[c]=az 1 (λ_=>c):=rfl;rw[this,AN];have:1+(a-1)=a:=aa;rw[this]
 rintro⟨f,w,⟨⟩⟩ ⟨b,i,v,q,k⟩;simp only at i k;subst i k;simp only[cN];by_cases g:b<a
 ·simp(disch:=omega) only[aw,vW,vI,Kw,aE,ji,m5,EO,cN];refine bu.2 ⟨⟨b+min b (a-b),TJ aa,aa,aa,?_⟩,?_⟩
  ·show jF (az a λd=>if d<b then c else 0) (az b λd=>if d<b then c else 0) b a=_;unfold jF;have n:(az b λd=>if d<b then c else 0)=az b λ_=>c:=db λd h=>(by rw[aw h]);have o:(az b λ(_:X)=>c).take (a-b)=az (min b (a-b)) λ_=>c:=by
    rcases Nat.le_total (a-b) b with e|e
    ·rw[EO _ _ _ e,Nat.min_eq_right e]
    rw[fN (by rw[cN];exact e),hN e]
   rw[EO _ _ _ q,cN,n,o,Xk,AN,AN];have:b+(min b (a-b)+(a-(b+min b (a-b))))=a:=aa;rw[this];refine db λd h=>?_;by_cases e:d<b
   ·rw[aw e,aw aa]
   rw[au e];by_cases j:d-b<min b (a-b)
   ·rw[aw j,aw aa]
   rw[au j,au aa,au aa]
  show a-(bL.wrap ((b:Z)+((min b (a-b):X):Z))).toNat<a-(b:Z).toNat;rw[TJ aa];omega
 simp(disch:=omega) only[au];refine bu.2 ?_;show _=_;rw[iQ];exact db λd h=>by rw[aw aa]
end Go.jy
end
