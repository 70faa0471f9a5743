/-
  Parts of the proof: Pl5, Th1, Pl6, Pl8, Pl9, Pl10, Pl12, ThT, Pa2, Pa3, Pa4, Pa5, Pa6, Pa7, Pa8, Pa9, Pa10, Pa11, Pa12, Pa13, Pa14, Pa15, Pa16, Pa17, Pa18, Pa19, Pa20, Pa21, Pa22, Pa23, Pa24, Pa25, Pa26, Pa27, Pa28, Pa29, Pm1, Pm2, G25, Pm3, Pm4, Pm5, Pm6, Pm7, Pm8, Pm9, Pm10, Pm11, Pm12, Pl13, Th2, Pl16, Pl18, Th3, Pl20, Pl21, Pl22, Pl23, Pl24, Pl25: the framework (Fw), pure forms (Dn), plain laws (Pl, Th), calls of functions (Ok).
-/
import Derived.Test.YtnndjinceoekdaaGreatDoorRows
import Derived.ProofKit
import Derived.Lib.LaidTab
import Derived.LaidMore
import Derived.Test.YtnndjinceoekdaaGreatDoorBfd352284

set_option linter.all false
set_option maxHeartbeats 1000000
open _root_ renaming Nat->X,Int->Z,Bool->bz,Unit->bt,Option->bu,False->b4,rfl->bn,decide_eq_true_eq->alB,List->bm,decide_eq_true->alg,decide_eq_false->alK,of_decide_eq_true->anD,Decidable->alQ,beq_self_eq_true->alJ,cond_true->bF,decide_eq_decide->cB,if_pos->ca,cond_false->bP,if_neg->b8,bne_self_eq_false->apA,congrArg->b3,if_false->alV
open Go.jN.ae renaming loop->alv,eq_iff->bO,fd->bZ,fm->b0,af->bv,k2->alp,mono->cw,yy->am4
open Option renaming some->Y,bind->bB,none->bo,bind_some->bN,map_some->anc
open Decidable renaming decide->br
open List renaming pairwise_iff_getElem->cA,getElem?_eq_getElem->bX,getD->amk,getElem_mem->b6,mem_singleton->alh,range->bI,pairwise_lt_range->apn,length_filter_le->alF,length_map->b9,range_succ->alG,mem_iff_getElem->al7,length_take->alD,take_add_one->ali,take_length->cy,replicate->bJ,getElem?_eq_none->am0,getElem?_take->an0,take_of_length_le->ch,getLast?_eq_getElem?->aqp,getElem_set_self->aqt,drop->apu,length_drop->apa,set_append_right->aqw,length_set->anI,take_zero->anN,nil_append->apw,drop_replicate->aqA,drop_drop->ann,take_append_drop->anA,append_assoc->amD,getElem_map->anb,length_append->alO,pairwise_append->aqI,mem_take_iff_getElem->anR,take_sublist->anS,filter_eq_self->amN,ext_getElem->anF,map_congr_left->alA,mem_cons_self->amE,pairwise_cons->ant,filter_nil->aov,getElem_set->aqK
open Nat renaming lt_or_ge->cn,le_trans->cx,and_le_left->aqk,or_lt_two_pow->aql,and_two_pow_sub_one_eq_mod->apo,add_comm->anr,div_add_mod->aob,two_pow_pos->am5,pow_lt_pow_right->aqn,le_antisymm->apq,div_lt_iff_lt_mul->aoa,le_div_iff_mul_le->apr,mul_div_cancel->aps,pow_mul->apt,le_refl->cf,eq_of_testBit_eq->aqq,testBit_and->aqr,testBit_two_pow->apf,sub_self->amm,add_sub_cancel->apv,blt->cb,sub_zero->amv,zero_add->aqz,min_eq_left->amA,div_eq_of_lt->aot,div_le_self->aou,mul_add_div->apB,lt_irrefl->amS
open Go.IntKind renaming u64->bD,wrap->am1,signed->aqj,i64->bK,u32->cd,u8->apk
open Go.jN renaming wrap64->cu
open List.Pairwise renaming filter->arp,nil->ans,sublist->aqJ
open Bool renaming false->bq,true->bp,true_and->anB
open Int renaming toNat_natCast->alL,fdiv_eq_ediv_of_nonneg->aqm,lt_or_le->al8,mul_nonneg->am7,le_of_lt->alq,le_total->aqo,add_comm->aoo,add_zero->anH,emod_add_mul_ediv->amB,sub_zero->aop,zero_add->amC,mul_lt_mul_of_pos_right->aoq,emod_emod_of_dvd->aqs,mul_emod_left->aor,mul_emod_mul_of_pos->aqu,mul_zero->am8,one_mul->am9,mul_comm->alM,ediv_ediv_of_nonneg->aqv,ediv_nonneg->al9,le_ediv_iff_mul_le->aos,mul_add->aqx,ediv_lt_of_lt_mul->aqy,emod_lt_of_pos->anJ,emod_nonneg->anL,mul_le_mul_of_nonneg_left->anM,mul_assoc->anO,lt_of_mul_lt_mul_left->anP,mul_neg_of_pos_of_neg->aqB,mul_ediv_cancel_left->aqC,natCast_mul->amM,le_refl->am3,ediv_le_self->anQ,emod_neg->aqD,ediv_neg->aqE,pow_add->aqF,natAbs_neg->ana,zero_sub->aqG,eq_ofNat_of_zero_le->ald,natAbs_add_le->apx,natCast_ediv->apy,natAbs_natCast->aqH,natCast_emod->apz
open BitVec renaming ofInt->cg
open Go.jN.fc renaming eq->am6,zero->aon
open Go.jN.aT renaming nil->alR,mb->alS,append->anK,cons->ama
open Go renaming IntKind->cr,World->bC
open Go.Proofs.Tryz renaming prog->cm
open Go.World renaming cell?->amr
open Go.jN.ah renaming size->alC
open List.Sublist renaming filter->arq
noncomputable section
namespace Go.jN
variable{a c j:X}{b e u:Z}{d f g:ala}{h l:bz}{i:eu}{k p:eA}{m t:Type}{n:es}{o:Prop}{q:X->Prop}{r:ak6}{v:(ej×Z×Z×bi×bt)->Prop}{w:er}{x:(ej×Z×bi×bt)->Prop}
section
def rv (a:ala) (c:Z):Prop:=a.Pairwise (· < ·)/\∀b∈a,0<=b/\b<c
theorem ae.count {g:m->bu (m⊕t)} {f:t->Prop} (d:m->Z) (c:X) (e:X->m->Prop) {i0:X} {i:m} (p:d i=(i0:Z)) (o:e i0 i) (k:i0<=c) (r:∀a b,i0<=a->a<c->d b=(a:Z)->e a b->ae (g b) (λ|.inl l=>d l=((a+1:X):Z)/\e (a+1) l|.inr h=>f h)) (u:∀b,d b=(c:Z)->e c b->ae (g b) (λ|.inl _=>b4|.inr h=>f h)):ae (jN.loop g i) f:=by
 refine alv (λb=>∃a:X,i0<=a/\a<=c/\d b=(a:Z)/\e a b) (λb=>c-(d b).toNat) ⟨i0,bc _,k,p,o⟩ ?_;rintro b ⟨a,q,k,n,s⟩;rcases cU a c with j|j
 ·refine(r a b q j n s).mono ?_;grind
 grind [mono]
open Classical in
theorem V1 (b:ala) (d:Z) (u:b.length<4611686018427387904):Ds (b,d,())=Y (br (rv b d),()):=by
 rw[<-bO];unfold Ds;simp only[bZ];refine ae.count (λi=>i.2.1) b.length (λa i=>i.1=(if a=0 then-1 else b.getD (a-1) 0)/\(b.take a).Pairwise (· < ·)/\∀e∈b.take a,0<=e/\e<d) (i0:=0) rfl ⟨bn,ac,ac⟩ (eJ _) ?_ ?_
 ·rintro a ⟨h,x,_⟩ _ n j ⟨f,r,m⟩;simp only at j f;subst j;simp only[b0,bZ,bv,alp];have v:∀e∈b.take a,e<=h:=by
   intro e q;rw[f];obtain⟨y,p,rfl⟩:=g8.1 q;simp only[gu] at p;have o:a≠0:=aa;rw[ar o];grind [cA,cn,bX]
  have w:-1<=h:=by
   rw[f];by_cases g:a=0
   ·omega
   rw[ar g];simp only[amk,cE (aa:a-1<b.length),sZ];have:=m (b[a-1]) (g8.2 ⟨a-1,by grind,ac⟩);omega
  have s:(b[a]<=h\/d<=b[a])->¬rv b d:=by
   rintro c ⟨z,A⟩;rcases c with c|c
   ·rw[f] at c;by_cases g:a=0
    ·grind
    rw[ar g] at c;grind [cA,bX]
   grind [b6]
  refine⟨λ_=>⟨n,λk=>⟨λl=>?_,λl=>?_⟩,λk=>?_⟩,λt=>by grind⟩
  ·grind
  ·simp at k l;refine⟨jo aa,?_,?_,?_⟩
   ·grind
   ·grind [alh,uD]
   grind [uD,alh]
  grind
 simp_all [b0,bv,h2,rv]
theorem MD (a b:Z):vk (a,b,())=Y (br (a<b),()):=by grind [vk,tn]
theorem Mj (a:Z) (b:0<=a) (c:a<18446744073709551616):bD.wrap a=a:=by unfold am1;rw[ar (by simp[aqj])];show a %18446744073709551616=a;omega
theorem Mp (b:ala) (e:Z) (B:b.length<4611686018427387904) (D:b.Pairwise (· < ·)):ae (vw (b,e,())) (λv=>v.2.1=br (e∈b)):=by
 unfold vw;simp only[bZ];refine cw (P:=λu=>∃a:X,u.1=(a:Z)/\a<=b.length/\(∀c,(f:c<b.length)->c<a->b[c]<e)/\(∀c,(f:c<b.length)->a<=c->e<=b[c])) ?_ ?_
 ·refine alv (λg=>∃a d:X,g.1=(a:Z)/\g.2.1=(d:Z)/\a<=d/\d<=b.length/\(∀c,(f:c<b.length)->c<a->b[c]<e)/\(∀c,(f:c<b.length)->d<=c->e<=b[c])) (λg=>(g.2.1-g.1).toNat) ⟨0,b.length,bn,bn,eJ _,bc _,λc _ f=>by omega,λc j h=>by omega⟩ ?_;rintro⟨t,E,_⟩ ⟨a,d,rfl,rfl,A,o,j,h⟩;simp only[b0,bZ,bv];refine⟨λi=>?_,λn=>?_⟩
  ·have i:a<d:=(by grind);have al:bK.wrap ((a:Z)+d)=(a:Z)+d:=cu aa aa;rw[al,Mj _ aa aa];have s:eQ bD ((a:Z)+d) 1=Y (((a+d)/2:X):Z):=by
    unfold eQ;rw[au aa];congr 1;show((a:Z)+d).fdiv (2^min 1 64)=_;grind
   rw[s];simp only[bv];have m:bK.wrap (((a+d)/2:X):Z)=(((a+d)/2:X):Z):=cu aa aa;rw[m,alp];refine⟨aa,?_⟩;rw[MD];simp only[bv,b0];have y:(a+d)/2<b.length:=aa;refine⟨λk=>?_,λk=>?_⟩
   ·have k:b[(a+d)/2]<e:=(by grind);rw[jo aa];refine⟨⟨(a+d)/2+1,d,bn,bn,aa,o,λc l p=>?_,h⟩,aa⟩;grind [Int.lt_trans,cA,cn]
   have k:e<=b[(a+d)/2]:=(by grind);refine⟨⟨a,(a+d)/2,bn,bn,aa,aa,j,λc l p=>?_⟩,aa⟩;grind [cA,cn]
  grind
 rintro⟨t,_⟩ ⟨a,rfl,z,j,h⟩;simp only;have C:(∀f:a<b.length,b[a]≠e)->e∉b:=by
  intro r q;obtain⟨c,l,rfl⟩:=g8.1 q;rcases sY c a with f|f|f
  ·grind
  ·grind
  have w:=h a aa (bc _);grind [cA]
 simp only[b0,bZ,bv,alp];refine⟨λi=>?_,λn=>?_⟩
 ·have i:a<b.length:=(by grind);refine⟨i,λr=>?_,λx=>?_⟩
  ·grind [bv,Eb]
  grind
 grind
structure fA (nA:eu):Prop where
 asc:∀v,(h:v<nA.length)->rv nA[v] nA.length
 PR:∀v,(h:v<nA.length)->(v:Z)∉nA[v]
 sym:∀v,(h:v<nA.length)->∀w:X,(hw:w<nA.length)->(w:Z)∈nA[v]->(v:Z)∈nA[w]
open Classical in
def jh (a:eu):Z:=if 200<a.length then 6 else if fA a then 0 else 1
open Classical in
theorem JM (a:eu) (b:X) (c:Z) (f:b<a.length) (d:a[b].length<4611686018427387904) (e:a[b].Pairwise (· < ·)):xL ((a,()),(b:Z),c,())=Y (br (c∈a[b]),()):=by rw[<-bO];grind [bv,Mp,bZ,alp,xL]
theorem Hh (a:eu) (p:∀z∈a,z.length<4611686018427387904):Ah ((a,()),())=Y (jh a,()):=by
 classical
 rw[<-bO];unfold Ah;simp only[b0,bZ,bv];refine⟨λi=>?_,λi=>?_⟩
 ·grind [jh]
 have G:¬200<a.length:=(by grind);have C:¬fA a->(1:Z)=jh a:=λi=>(by grind [jh]);refine cw (P:=λh=>(h=.inr (1,())/\¬fA a)\/(h=.inl ()/\∀d,(i:d<a.length)->rv a[d] a.length/\(d:Z)∉a[d])) ?_ ?_
 ·refine ae.for (i0:=0) a.length (λc _=>∀d,d<c->(i:d<a.length)->rv a[d] a.length/\(d:Z)∉a[d]) rfl (λd l=>by omega) (eJ _) ?_ ?_
  ·rintro c _ _ g t;simp only[b0,bZ,bv,alp];refine⟨λ_=>⟨g,?_⟩,λr=>by grind⟩;rw[V1 _ _ (p _ (cL g))];simp only[bv];refine⟨λq=>?_,λq=>.inl ⟨trivial,λf=>?_⟩⟩
   ·have q:rv a[c] a.length:=(by grind);rw[JM a c c g (p _ (cL g)) q.1];simp only[bv,b0];refine⟨λx=>.inl ⟨trivial,λf=>f.PR c g (by grind)⟩,λx=>⟨jo aa,λd l D=>?_⟩⟩;grind
   have:=f.asc c g;grind
  simp_all [b0,bv,trivial]
 rintro h (⟨rfl,f⟩|⟨rfl,o⟩)
 ·grind [bv]
 simp only[bZ];have J:(∀e,(i:e<a.length)->∀k∈a[e],∀b:X,k=(b:Z)->(j:b<a.length)->(e:Z)∈a[b])->fA a:=λi=>⟨λe f=>(o e f).1,λe f=>(o e f).2,λe f b j s=>i e f b s b bn j⟩;refine cw (P:=λh=>(h=.inr (1,())/\¬fA a)\/(h=.inl ()/\∀e,(i:e<a.length)->∀k∈a[e],∀b:X,k=(b:Z)->(j:b<a.length)->(e:Z)∈a[b])) ?_ ?_
 ·refine ae.for (i0:=0) a.length (λc _=>∀e,e<c->(i:e<a.length)->∀k∈a[e],∀b:X,k=(b:Z)->(j:b<a.length)->(e:Z)∈a[b]) rfl (λd l=>by omega) (eJ _) ?_ ?_
  ·rintro c _ _ g t;simp only[b0,bZ,alp];refine⟨λ_=>⟨g,?_⟩,λr=>by grind⟩;have E:=p _ (cL g);refine cw (P:=λh=>(h=.inr (.inr (.inr (1,())))/\¬fA a)\/(h=.inl ()/\∀k∈a[c],∀b:X,k=(b:Z)->(j:b<a.length)->(c:Z)∈a[b])) ?_ ?_
   ·refine ae.for (i0:=0) a[c].length (λd _=>∀m,m<d->(i:m<a[c].length)->∀b:X,a[c][m]=(b:Z)->(j:b<a.length)->(c:Z)∈a[b]) rfl (λd l=>by omega) (eJ _) ?_ ?_
    ·rintro d _ _ l v;simp only[b0,bZ,alp];refine⟨λ_=>⟨l,?_⟩,λr=>by grind⟩;have I:=(o c g).1.2 _ (cL l);obtain⟨b,j⟩:∃b:X,a[c][d]=(b:Z):=⟨a[c][d].toNat,aa⟩;have n:b<a.length:=aa;rw[j,JM a b c n (p _ (cL n)) (o b n).1.1];simp only[bv,b0];refine⟨λH=>.inl ⟨trivial,λf=>?_⟩,λM=>⟨jo aa,λm s F B K L=>?_⟩⟩
     ·have:=f.sym c g b n (j▸cL l);grind
     rcases cU m d with u|u
     ·grind
     obtain rfl:m=d:=aa;have:B=b:=aa;grind
    intro A v;simp only[b0,bv];refine⟨λr=>by grind,λ_=>.inr ⟨trivial,λk y b j n=>?_⟩⟩;obtain⟨m,s,rfl⟩:=g8.1 y;grind
   rintro h (⟨rfl,f⟩|⟨rfl,w⟩)
   ·simp_all [trivial,bv]
   grind [bv,jo,cn]
  intro A t;simp only[b0,bv];grind
 rintro h (⟨rfl,f⟩|⟨rfl,w⟩)
 ·grind [bv]
 grind [bv,jh]
end
section
inductive rQ (A:X->X->Prop) (k:X):X->X->Prop
 |one {i j:X}:A i j->rQ A k i j
 |step {i m j:X}:A i m->m<k->rQ A k m j->rQ A k i j
section
variable {A:X->X->Prop} {k:X}
end
end
section
def kl (A:eu) (a b:X):Prop:=∃c:a<A.length,(b:Z)∈A[a]
def kl.lt {A:eu} (f:fA A) (b:kl A a c):a<A.length/\c<A.length:=by obtain⟨d,e⟩:=b;have:=(f.asc a d).2 _ e;omega
def kl.symm {A:eu} (e:fA A):∀a b,kl A a b->kl A b a:=λa b c=>by obtain⟨f,d⟩:=c.lt e;exact⟨d,e.sym a f b d c.2⟩
def kl.ne {A:eu} (e:fA A) (b:kl A a c):a≠c:=λd=>by subst d;exact e.PR a b.1 b.2
def rQ.lt {A:eu} (b:fA A) {e c j:X} (a:rQ (kl A) e c j):c<A.length/\j<A.length:=by
 induction a with
 |one a=>exact a.lt b
 |step a _ _ d=>exact⟨(a.lt b).1,d.2⟩
inductive CP (R:X->X->Prop):X->X->Prop
 |refl (u:X):CP R u u
 |step {u p v:X}:R u p->CP R p v->CP R u v
section
variable (A:eu)
variable {A} {j:X} {T:X->Prop} {par B:ala}
end
end
section
def zx (c:eu) (a b:X):Prop:=b=a\/(a<b/\rQ (kl c) a a b)
open Classical in
def vh (c:eu) (b d:X):ala:=((bI d).filter λa=>br (b<=a/\zx c b a)).map λ(a:X)=>(a:Z)
def he (a:eu) (b:X):ala:=vh a b a.length
def zx.le (b:zx i c a):c<=a:=by rcases b with b|b<;>omega
def wb:(a:Z)∈he i c↔a<i.length/\zx i c a:=by
 unfold he vh;simp only[eS,h1,fN,alB];constructor
 ·rintro⟨e,⟨d,b⟩,f⟩;have:e=a:=aa;subst this;exact⟨d,b.2⟩
 exactλ⟨d,b⟩=>⟨a,⟨d,b.le,b⟩,bn⟩
def LK (c:X->bz) (b:X):(((bI b).filter c).map λ(a:X)=>(a:Z)).Pairwise (· < ·):=by rw[nW];refine arp _ ?_;exact apn.imp (λd=>by omega)
def N7 (a:eu) (b:X):(he a b).Pairwise (· < ·):=LK _ _
def WN (b:eu) (c a:X):(vh b c a).length<=a:=by unfold vh;rw[dh];exact cO (lS _ _) ac
end
theorem MA (a:ala) (b:Z) (h:a.length<4611686018427387904):AF (a,b,())=Y (br (b∈a),()):=by
 rw[<-bO];unfold AF;simp only[bZ];refine ae.for (i0:=0) a.length (λc _=>b∉a.take c) rfl ac (eJ _) ?_ ?_
 ·rintro c _ _ d e;simp only[b0,bZ,bv,alp];refine⟨λ_=>⟨d,λf=>?_,λi=>⟨jo aa,?_⟩⟩,λg=>by grind⟩
  ·grind
  grind [uD,alh]
 simp_all [b0,bv,h2]
def Uv (a:Z):bD.wrap a=a %18446744073709551616:=by unfold am1;rw[ar (by simp[aqj])];rfl
def hK (a:es) (b c:X):bz:=(a.getD b []).getD c bq
def m8 (c:es) (b d:X):ala:=((bI d).filter λa=>b !=a&&(hK c b a||hK c a b)).map λ(a:X)=>(a:Z)
def kc (a:es):eu:=(bI a.length).map λb=>m8 a b a.length
theorem Ql (b:es) (c a:X):(m8 b c a).length<=a:=by grind [cx,alF,b9,m8]
theorem Qm (c:es) (b a:X):m8 c b (a+1)=m8 c b a++(if(b !=a&&(hK c b a||hK c a b))=bp then[(a:Z)] else[]):=by unfold m8;rw[jq,oG,jC];grind
theorem xy (b:a<n.length) (d:c<n[a].length):hK n a c=n[a][c]:=by grind [amk,hK]
theorem Mx (a:es) (p:∀k∈a,k.length=a.length) (y:a.length<=4294967296):AU (a,())=Y ((kc a,()),()):=by
 rw[<-bO];unfold AU;have v:hN=4294967296:=rfl;simp only[bZ];refine cw (P:=λd=>d.2.1.1=kc a) ?_ ?_
 ·refine ae.for (i0:=0) a.length (λc l=>l.2.1.1=(bI c).map λc=>m8 a c a.length) rfl rfl (eJ _) ?_ ?_
  ·rintro c ⟨l,h,_⟩ _ i g;simp only at g;simp only[b0,bZ,bv];refine⟨λ_=>?_,λm=>by grind⟩;refine cw (P:=λd=>d.2.1=h/\d.2.2.1=m8 a c a.length) ?_ ?_
   ·refine ae.for (i0:=0) a.length (λe d=>d.2.1=h/\d.2.2.1=m8 a c e) rfl ⟨bn,bn⟩ (eJ _) ?_ ?_
    ·rintro e ⟨s,q,k,_⟩ _ j ⟨n,o⟩;simp only at o n;subst n;have t:=p _ (cL i);have u:=p _ (cL j);simp only[b0 (b:=decide _),bZ (x:=bB _ _)];refine⟨λ_=>?_,λm=>by grind⟩;rw[bZ];refine cw (P:=λd=>d=((c !=e&&(hK a c e||hK a e c)),s,q,k,())) ?_ ?_
     ·simp only[b0,bZ,bv,alp];rw[xy i aa,xy j aa];refine⟨λf=>⟨i,aa,λr=>⟨j,aa,?_⟩,λr=>?_⟩,λf=>?_⟩
      ·have f:c≠e:=(by grind);grind
      ·have f:c≠e:=(by grind);grind
      grind
     rintro d rfl;have w:=Ql a c e;simp only[b0,bZ,bv,am4];refine⟨λf=>⟨by grind,jo aa,trivial,?_⟩,λf=>⟨jo aa,trivial,?_⟩⟩
     ·rw[Qm,au f,o]
     simp_all [Qm,ar,pq]
    simp_all [b0,bv,trivial]
   grind [bZ,bv,am4,jo,alG]
  rintro⟨l,h,_⟩ g;simp only at g;simp only[b0,bv];exact⟨λm=>by grind,λ_=>g⟩
 grind [bv]
theorem QB:(a:Z)∈m8 n c j↔a<j/\c≠a/\(hK n c a||hK n a c)=bp:=by unfold m8;grind
theorem Jq (b:es):fA (kc b):=by
 have e:(kc b).length=b.length:=(by simp[kc]);have d:∀a,(c:a<(kc b).length)->(kc b)[a]=m8 b a b.length:=λa c=>(by simp[kc]);refine⟨λa c=>?_,λa c=>?_,λa c i h g=>?_⟩
 ·rw[d a c,e];refine⟨LK _ _,λj f=>?_⟩;unfold m8 at f;grind
 ·grind [QB]
 grind [QB,Bool.or_comm]
def Yr (a:es):(kc a).length=a.length:=by simp[kc]
theorem Ys (b:es):∀a∈kc b,a.length<=b.length:=by intro a c;unfold kc at c;grind [Ql]
def WO (r:fA i) (s:a<i.length):∃f,he i a=(a:Z)::f/\(∀c∈f,∃b:X,c=(b:Z)/\a<b/\b<i.length/\rQ (kl i) a a b)/\(∀b:X,a<b->rQ (kl i) a a b->(b:Z)∈f)/\f.Pairwise (· < ·):=by
 have l:(a:Z)∈he i a:=wb.2 ⟨s,.inl bn⟩;have h:=N7 i a;have j:∀c∈he i a,∃b:X,c=(b:Z)/\b<i.length/\zx i a b:=(by intro c e;have t:=e;unfold he vh at e;simp only[eS] at e;obtain⟨b,_,rfl⟩:=e;exact⟨b,bn,wb.1 t⟩);generalize q:he i a=o at l h j;cases o with
 |nil=>cases l
 |cons c f=>
  rw[nq] at h;have e:c=(a:Z):=by
   obtain⟨b,rfl,_,k⟩:=j c (jd ..);have:=k.le;rcases fF.1 l with d|d
   ·exact d.symm
   have:=h.1 _ d;omega
  subst e;refine⟨f,bn,λu n=>?_,λb k m=>?_,h.2⟩
  ·obtain⟨b,rfl,p,g⟩:=j u (gx _ n);have:=h.1 _ n;rcases g with g|g
   ·omega
   exact⟨b,bn,g.1,p,g.2⟩
  have:(b:Z)∈he i a:=wb.2 ⟨(m.lt r).2,.inr ⟨k,m⟩⟩;rw[q] at this;rcases fF.1 this with d|d
  ·omega
  exact d
theorem gJ {b:bm m} {c:m} (d:b[a]?=Y c):aw b (a:Z)=Y c:=by unfold aw;rw[au aa,fP,d]
theorem HL (b:eu):fA b↔∀a,(f:a<b.length)->b[a].Pairwise (· < ·)/\∀c,(e:c<b[a].length)->(0<=b[a][c]/\b[a][c]<b.length)/\b[a][c]≠(a:Z)/\(a:Z)∈b.getD (b[a][c]).toNat []:=by
 constructor
 ·rintro⟨g,j,k⟩ a d;refine⟨(g a d).1,λc e=>?_⟩;have l:=(g a d).2 _ (cL e);grind
 intro f;refine⟨λa d=>⟨(f a d).1,λp n=>?_⟩,λa d h=>?_,λa d o m h=>?_⟩
 ·grind [al7]
 ·grind [al7]
 obtain⟨c,e,i⟩:=g8.1 h;grind [alL,bX]
theorem Ls (a:eu) (s:∀B∈a,B.length<4611686018427387904):x9 ((a,()),())=Y (jh a,()):=by
 classical
 rw[<-bO];unfold x9;simp only[b0,bv,bZ];refine⟨λd=>?_,λd=>?_⟩
 ·grind [jh]
 have E:¬200<a.length:=(by grind);refine cw (P:=λg=>(g=.inl ()/\fA a)\/(g=.inr (1,())/\¬fA a)) ?_ ?_
 rotate_left
 ·rintro _ (⟨rfl,e⟩|⟨rfl,e⟩)
  ·grind [bv,jh]
  grind [bv,jh]
 refine ae.for (i0:=0) a.length (λn _=>∀b,(d:b<a.length)->b<n->a[b].Pairwise (· < ·)/\∀c,(f:c<a[b].length)->(0<=a[b][c]/\a[b][c]<a.length)/\a[b][c]≠(b:Z)/\(b:Z)∈a.getD (a[b][c]).toNat []) rfl (λb _ d=>by omega) (eJ _) ?_ ?_
 ·rintro b _ _ e i;have A:=s _ (cL e);simp only[b0,bv,bZ,alp];refine⟨λ_=>⟨e,?_⟩,λh=>by grind⟩;rw[UF _ A];simp only[bv];refine⟨λl=>.inr ⟨trivial,λk=>?_⟩,λl=>?_⟩
  ·have:=(k.asc b e).1;grind
  have l:a[b].Pairwise (· < ·):=(by grind);refine cw (P:=λg=>(g=.inl ()/\∀c,(f:c<a[b].length)->(0<=a[b][c]/\a[b][c]<a.length)/\a[b][c]≠(b:Z)/\(b:Z)∈a.getD (a[b][c]).toNat [])\/(g=.inr (.inr (.inr (1,())))/\¬fA a)) ?_ ?_
  rotate_left
  ·rintro _ (⟨rfl,t⟩|⟨rfl,t⟩)
   ·simp only[bv];refine⟨jo aa,λp z G=>?_⟩;rcases cU p b with d|d
    ·exact i p z d
    obtain rfl:p=b:=aa;exact⟨l,t⟩
   simp_all [bv,trivial]
  refine ae.for (i0:=0) a[b].length (λn _=>∀c,(f:c<a[b].length)->c<n->(0<=a[b][c]/\a[b][c]<a.length)/\a[b][c]≠(b:Z)/\(b:Z)∈a.getD (a[b][c]).toNat []) rfl (λb _ d=>by omega) (eJ _) ?_ ?_
  ·rintro c _ _ f j;have m:¬((0<=a[b][c]/\a[b][c]<a.length)/\a[b][c]≠(b:Z)/\(b:Z)∈a.getD (a[b][c]).toNat [])->¬fA a:=λd k=>d (((HL a).1 k b e).2 c f);simp only[b0,bv,bZ,alp];refine⟨e,λ_=>⟨e,f,λq=>⟨λr=>⟨λu=>?_,λu=>?_⟩,λr=>?_⟩,λq=>?_⟩,λh=>by simp_all⟩
   ·have y:0<=a[b][c]/\a[b][c]<(a.length:Z):=(by simp_all);have F:a[b][c]≠(b:Z):=(by simp_all);rw[ae.Pr];refine⟨aa,y.1,?_⟩;rw[MA _ _ (s _ (cL _))];have C:a.getD (a[b][c]).toNat []=a[(a[b][c]).toNat]'(by omega):=by
     simp_all
    simp only[bv];refine⟨λv=>.inr ⟨trivial,m ?_⟩,λv=>⟨jo aa,λo x D=>?_⟩⟩
    ·simp_all
    rcases cU o c with d|d
    ·exact j o x d
    obtain rfl:o=c:=aa;simp_all
   ·simp_all
   ·refine .inr ⟨trivial,m (λw=>?_)⟩;simp at r;omega
   refine .inr ⟨trivial,m (λw=>?_)⟩;simp at q;omega
  rintro _ j;simp only[b0,bv,bZ,alp];exact⟨e,λh=>by simp at h,λ_=>.inl ⟨trivial,λc f=>j c f f⟩⟩
 rintro _ i;simp only[b0,bv];exact⟨λh=>by grind,λ_=>.inl ⟨trivial,(HL a).2 λb e=>i b e e⟩⟩
theorem Vc (a:ala) (c:Z) (q:a.length<4611686018427387904):EE (a,c,())=Y (br (∀b∈a,0<=b/\b<c),()):=by
 rw[<-bO];unfold EE;simp only[bZ];refine cw (P:=λi=>(i=.inl ()/\∀b∈a,0<=b/\b<c)\/(i=.inr (bq,())/\¬∀b∈a,0<=b/\b<c)) ?_ ?_
 ·refine ae.for (i0:=0) a.length (λf _=>∀d,(e:d<a.length)->d<f->0<=a[d]/\a[d]<c) rfl (λd _ e=>by omega) (eJ _) ?_ ?_
  ·rintro f _ _ g l;have h:¬(0<=a[f]/\a[f]<c)->¬∀b∈a,0<=b/\b<c:=λe n=>e (n _ (cL g));simp only[b0,bZ,bv,alp];refine⟨λ_=>⟨g,λj=>⟨g,λk=>.inr ⟨trivial,h (λe=>?_)⟩,λk=>⟨jo aa,λd o p=>?_⟩⟩,λj=>.inr ⟨trivial,h (λe=>?_)⟩⟩,λm=>by grind⟩
   ·grind
   ·grind
   grind
  rintro _ l;simp only[b0,bv];refine⟨λm=>by grind,λ_=>.inl ⟨trivial,λb r=>?_⟩⟩;grind [al7]
 grind [bv,alg,alK]
theorem Q2:d.Nodup↔∀a,(b:a<d.length)->d[a]∉d.take a:=by grind [al7,alD,cA]
theorem Vj (a:ala) (m:a.length<4611686018427387904):EF (a,())=Y (br (¬a.Nodup),()):=by
 rw[<-bO];unfold EF;simp only[bZ];refine cw (P:=λe=>(e=.inl ()/\a.Nodup)\/(e=.inr (bp,())/\¬a.Nodup)) ?_ ?_
 ·refine ae.for (i0:=0) a.length (λc _=>∀b,(d:b<a.length)->b<c->a[b]∉a.take b) rfl (λb _ d=>by omega) (eJ _) ?_ ?_
  ·rintro c _ _ g h;have al:hj (c:Z)=Y c:=(by simp_all [au,fP,hj]);have f:hX 0 c a.length=Y ():=(by grind [hX]);simp only[b0,bZ,bv,alp,al,f,aI,jr,np];refine⟨λ_=>⟨g,?_⟩,λj=>by grind⟩;rw[MA _ _ (by grind)];simp only[bv];refine⟨λd=>.inr ⟨trivial,λi=>?_⟩,λd=>⟨jo aa,λb k l=>?_⟩⟩
   ·simp_all [Q2,anD]
   grind
  simp_all [b0,bv,trivial,Q2]
 grind [bv,alK,alg]
def ph (a:eu):es:=(bI a.length).map λb=>(bI a.length).map λ(c:X)=>br ((c:Z)∈a.getD b [])
theorem LZ (a:eu):(ph a).length=a.length:=by simp[ph]
theorem TX (b:a<i.length):(ph i)[a]?=Y ((bI i.length).map λ(c:X)=>br ((c:Z)∈i[a])):=by simp[ph,b,amk]
theorem MN (p:∀v∈i,v.length<4611686018427387904) (y:i.length<=200) (r:∀a,(f:a<i.length)->∀o∈i[a],0<=o/\o<(i.length:Z)):AV ((i,()),())=Y (ph i,()):=by
 rw[<-bO];unfold AV;have x:hN=4294967296:=rfl;simp only[bZ];refine cw (P:=λd=>d.1=ph i) ?_ (by grind [bv]);refine ae.for (i0:=0) i.length (λu e=>e.1=(ph i).take u) rfl ac (eJ _) ?_ ?_
 ·rintro a ⟨j,_⟩ _ b h;simp only at h;have A:=p _ (cL b);simp only[b0,bZ,ae.Kg,fP];refine⟨λ_=>⟨⟨aa,aa,aa⟩,?_⟩,λq=>by grind⟩;refine cw (P:=λd=>d.1=j/\d.2.1=(bI i.length).map λ(l:X)=>br ((l:Z)∈i[a])) ?_ ?_
  ·refine ae.for (i0:=0) i[a].length (λc e=>e.1=j/\e.2.1=(bI i.length).map λ(l:X)=>br ((l:Z)∈i[a].take c)) rfl ⟨bn,?_⟩ (eJ _) ?_ ?_
   ·apply ie;grind
   ·rintro c ⟨B,w,_⟩ _ g ⟨m,n⟩;simp only at m n;have t:=r a b _ (cL g);have z:w.length=i.length:=(by grind);simp only[b0,bZ,alp,ae.Fx,ae.CX,bv];refine⟨b,λ_=>⟨b,g,⟨t.1,aa⟩,aa,jo aa,m,?_⟩,λq=>by grind⟩;apply ie;intro k;rw[zC,n,j3,j3];rcases cU k i.length with f|f
    ·rw[CB f];simp only[jr,<-uD g,g0,gq,dh,oI];by_cases s:(i[a][c]).toNat=k
     ·grind
     rw[ar s];have:¬(k:Z)=i[a][c]:=aa;grind
    grind
   simp_all [b0,bZ,alp,bv,h2]
  grind [bZ,am4,bv,jo,TX,ali]
 rintro⟨j,_⟩ h;simp only at h;simp only[b0,bv];grind [LZ,cy]
theorem ON (a:X) (h:a<=4294967296):AW ((a:Z),())=Y (bJ a (bJ a bq),()):=by
 rw[<-bO];unfold AW;have g:hN=4294967296:=rfl;simp only[bZ];refine cw (P:=λd=>d.1=bJ a (bJ a bq)) ?_ (by grind [bv]);refine ae.for (i0:=0) a (λb e=>e.1=bJ b (bJ a bq)) rfl rfl (eJ _) ?_ ?_
 ·rintro b ⟨i,_⟩ _ f c;simp only at c;simp only[b0,bZ,bv,ae.Kg,am4,fP];grind [List.replicate_succ',jo]
 simp_all [b0,bv]
section
def az {α:Type} (b:X) (a:X->α):bm α:=(bI b).map a
def eG {α:Type} (b:X->α) (c:X) (d:α):X->α:=λa=>if a=c then d else b a
section
variable {α A B:Type}
theorem gH (c:X->α) (a:X) (b:α):eG c a b a=b:=au bn
theorem g6 (b:X->α) (e:α) (d:a≠c):eG b c e a=b a:=ar d
theorem cI (a:X) (b:X->α):(az a b).length=a:=by simp[az]
theorem o2 (c:X) (b:X->α) (a:X):(az c b)[a]?=if a<c then Y (b a) else bo:=by unfold az;grind
theorem gV {b:X->α} (d:a<c):(az c b)[a]?=Y (b a):=by rw[o2,au d]
theorem k1 {b:X->α} (d:a<(az c b).length):(az c b)[a]=b a:=by simp[az]
theorem df {c d:X->α} (e:∀b,b<a->c b=d b):az a c=az a d:=iU λb f=>e b (fN.1 f)
theorem X6 (a:X->α):az 0 a=[]:=rfl
theorem o3 (b:X) (a:X->α):az (b+1) a=az b a++[a b]:=by simp[az,jq]
theorem jk (a:X) (b:α):bJ a b=az a λ_=>b:=by apply ie;grind [o2]
theorem ho {b:X->α} (d:α):(az c b).set a d=az c (eG b a d):=by apply ie;intro e;rw[zC,o2,o2,cI];unfold eG;grind
def Qz {b:X->α} {d:α}:d∈az a b↔∃c,c<a/\b c=d:=by simp[az]
theorem X4 (a:bm α) (c:X->α) (d:∀b,(e:b<a.length)->a[b]=c b):a=az a.length c:=by apply ie;grind [am0,bX,o2]
theorem Fb (c a:X) (b:X->α) (d:a<=c):(az c b).take a=az a b:=by apply ie;intro e;rw[an0,o2,o2];grind
theorem X2 (d a:X) (b:X->α):(az d b).drop a=az (d-a) (λc=>b (a+c)):=by apply ie;intro c;rw[pt,o2,o2];grind
theorem A7 (b e:X) (c d:X->α):az b c++az e d=az (b+e) (λa=>if a<b then c a else d (a-b)):=by apply ie;intro a;rw[List.getElem?_append,cI,o2,o2,o2];grind
theorem e9 {n i:X} (a:i<n):be n (i:Z)=Y i:=by simp_all [au,be]
theorem hb {d:bm α} {c:α} {b:α->bu A} (e:d[a]?=Y c):a5 d a b=b c:=by grind [a5]
theorem gT {b:X->α} {d:α->bu A} (e:a<c):a5 (az c b) a d=d (b a):=hb (gV e)
def sg {b:X->α} (d:a<c):aw (az c b) (a:Z)=Y (b a):=gJ (gV d)
theorem e3 (b:a<=4294967296):cN a=Y ():=au b
theorem im (b:a<=4294967296):gg (a:Z) (a:Z)=Y a:=by unfold gg;rw[au ⟨aa,aa,by have:hN=4294967296:=rfl;omega⟩];simp
theorem wh:hj (a:Z)=Y a:=by simp_all [au,hj]
theorem vZ (b:c<=a/\a<=j):hX c a j=Y ():=au b
def Lb (b:0<a):wx a=Y ():=rfl
theorem g2 (a b:Z):(a==b)=br (a=b):=by grind
theorem fQ (a b:Z):(a !=b)=!br (a=b):=by grind
theorem aH [alQ o] (a:o):decide o=bp:=alg a
theorem aD [alQ o] (a:¬o):decide o=bq:=alK a
theorem a7 {a b:α} (c:h=bp):(bif h then a else b)=a:=by grind
theorem a2 {b a:α} (c:h=bq):(bif h then b else a)=a:=by grind
theorem c7 [alQ o] {a b:α}:(bif decide o then a else b)=if o then a else b:=by grind
theorem Io [alQ o] {a b:α}:(bif decide o==bp then a else b)=if o then a else b:=by grind
theorem Da [alQ o] {a b:α}:(bif decide o==bq then a else b)=if o then b else a:=by grind
theorem He (b:a<9223372036854775808):bK.wrap (a:Z)=(a:Z):=cu aa aa
theorem Uw (b:a+c<9223372036854775808):bK.wrap ((a:Z)+(c:Z))=((a+c:X):Z):=by grind [cu]
theorem ahF (d:c<=a) (b:a<9223372036854775808):bK.wrap ((a:Z)-(c:Z))=((a-c:X):Z):=by grind [cu]
theorem Cn (c:1<=a) (b:a<9223372036854775808):bK.wrap ((a:Z)-1)=((a-1:X):Z):=by grind [cu]
theorem lJ (b:a+1<9223372036854775808):bK.wrap ((a:Z)+1)=((a+1:X):Z):=by grind [cu]
end
def ae.of_eq {α:Type} {c:bu α} {a:α} {b:α->Prop} (d:c=Y a) (e:b a):ae c b:=⟨a,d,e⟩
theorem ae.aO {α A:Type} {c:bu α} {b:α->bu A} {P:α->Prop} {a:A->Prop} (e:ae c P) (f:∀d,P d->ae (b d) a):ae (c.bind b) a:=
 bZ.2 (e.mono f)
theorem ae.ite {α:Type} [alQ o] {b c:bu α} {a:α->Prop} (d:o->ae b a) (e:¬o->ae c a):ae (if o then b else c) a:=by grind
theorem ai {α A:Type} {c:bu α} {a:α->bu A} {y:α} {b:bu A} (d:c=Y y) (e:a y=b):c.bind a=b:=by grind
theorem Br {f:Z×m->bu ((Z×m)⊕t)} {g:t} {h:m} (d:X) (c:X->m) (e:X) (j:b=(e:Z)) (k:h=c e) (i:e<=d) (o:∀a,e<=a->a<d->f ((a:Z),c a)=Y (.inl (((a+1:X):Z),c (a+1)))) (n:f ((d:Z),c d)=Y (.inr g)):loop f (b,h)=Y g:=by
 subst j k;rw[<-bO];refine ae.for d (λa l=>l=c a) rfl rfl i ?_ ?_
 ·grind [bv]
 grind [bv]
theorem FN {τ:Type} {h:Z×τ->bu ((Z×τ)⊕m)} (f:X) (e:X->Prop) (g:τ) (l k:m) (d:X) (r:b=(d:Z)) (q:d<=f) (s:∀a,d<=a->a<f->(∀c,d<=c->c<a->e c)->h ((a:Z),g)=Y (open Classical in if e a then .inl (((a+1:X):Z),g) else .inr k)) (v:(∀c,d<=c->c<f->e c)->h ((f:Z),g)=Y (.inr l)):loop h (b,g)=Y (open Classical in if∀a,d<=a->a<f->e a then l else k):=by
 classical
 subst r;rw[<-bO];refine ae.for f (λa t=>t=g/\∀c,d<=c->c<a->e c) rfl ⟨bn,λc i u=>by omega⟩ q ?_ ?_
 ·rintro a _ n i ⟨rfl,o⟩;rw[s a n i o];by_cases j:e a
  ·rw[au j];grind [cn,bv]
  rw[ar j];exact bv.2 (by rw[ar (λp=>j (p a n i))])
 rintro _ ⟨rfl,o⟩;simp_all [bv,au]
theorem Kc {d:Z×bt->bu dM} (c:X) (b:X->Prop) (h:∀a,a<c->d ((a:Z),())=Y (open Classical in if b a then .inl (((a+1:X):Z),()) else .inr (.inr ((a:Z),())))) (m:d ((c:Z),())=Y (.inr (.inl ()))):ae (loop d (0,())) (λi=>match i with|.inl _=>∀a,a<c->b a|.inr j=>0<=j.1/\¬∀a,a<c->b a):=by
 classical
 refine ae.for c (λa _=>∀e,e<a->b e) (i0:=0) rfl (λe k=>by omega) (eJ _) ?_ ?_
 ·rintro a ⟨⟩ _ g l;rw[h a g];by_cases f:b a
  ·rw[au f];grind [cn,bv]
  rw[ar f];grind [bv]
 grind [bv]
end
theorem Mh (a:Z):cd.wrap a=a %4294967296:=by unfold am1;exact ar (ac:¬(bq&&br (a %4294967296>=(2147483648:Z)))=bp)
theorem Hf (a:Z):bD.wrap a=a %18446744073709551616:=by unfold am1;exact ar (ac:¬(bq&&br (a %18446744073709551616>=(9223372036854775808:Z)))=bp)
theorem Cm (a:0<=b) (c:b<18446744073709551616):bD.wrap b=b:=by grind [Hf]
theorem Mi (a:0<=b) (c:b<4294967296):cd.wrap b=b:=by grind [Mh]
theorem Wq (b:a<18446744073709551616):(cg 64 (a:Z)).toNat=a:=by grind
theorem M4 (e:a<18446744073709551616) (f:c<18446744073709551616):e0 .u64 (a:Z) (c:Z)=((a&&&c:X):Z):=by have b:((cg 64 (a:Z))&&&(cg 64 (c:Z))).toNat=a&&&c:=(by grind);have d:a&&&c<=a:=aqk;unfold e0;rw[show bD.bits=64 from rfl,b];grind [Cm]
theorem M3 (e:a<4294967296) (f:c<4294967296):e0 .u32 (a:Z) (c:Z)=((a&&&c:X):Z):=by have b:((cg 32 (a:Z))&&&(cg 32 (c:Z))).toNat=a&&&c:=(by grind);have d:a&&&c<=a:=aqk;unfold e0;rw[show cd.bits=32 from rfl,b];grind [Mi]
theorem adV (d:a<18446744073709551616) (e:c<18446744073709551616):gK .u64 (a:Z) (c:Z)=((a|||c:X):Z):=by have b:(cg 64 (a:Z)|||cg 64 (c:Z)).toNat=a|||c:=(by grind);have f:a|||c<2^64:=aql d e;unfold gK;rw[show bD.bits=64 from rfl,b];grind [Cm]
theorem adU (d:a<4294967296) (e:c<4294967296):gK .u32 (a:Z) (c:Z)=((a|||c:X):Z):=by have b:(cg 32 (a:Z)|||cg 32 (c:Z)).toNat=a|||c:=(by grind);have f:a|||c<2^32:=aql d e;unfold gK;rw[show cd.bits=32 from rfl,b];grind [Mi]
theorem ta (a:X) (d:0<=b) (f:b<18446744073709551616) (c:Z) (e:a<=64) (i:c=2^a-1):e0 .u64 b c=b %2^a:=by obtain⟨k,rfl⟩:=gh d;have j:0<2^a:=iV a;have g:c=((2^a-1:X):Z):=(by grind);have h:2^a<=2^64:=rJ ab e;grind [M4,apo]
theorem and_low32 (a:0<=b) (c:b<18446744073709551616):e0 .u64 b 4294967295=b %4294967296:=ta 32 a c _ ab ab
theorem nN (a:Z):eQ .u64 a 32=Y (a/4294967296):=by have:eQ .u64 a 32=Y (a.fdiv 4294967296):=rfl;grind
theorem p8 (a:0<=b) (c:b<=64):it .u64 e b=Y ((e*2^b.toNat) %18446744073709551616):=by unfold it;rw[au a,Hf,show bD.bits=64 from rfl,hR aa]
theorem zb (a:0<=b) (c:b<=64):eQ .u64 e b=Y (e/2^b.toNat):=by unfold eQ;rw[au a,show bD.bits=64 from rfl,hR aa,aqm _ (by grind)]
theorem M6 (b:X) (d:a<2^b):a|||(c*2^b)=a+c*2^b:=by rw[anr,Nat.or_comm,j6,Nat.two_pow_add_eq_or_of_lt d]
theorem nJ (a:X) (d:0<=b) (h:b<2^a) (f:0<=e) (i:b<18446744073709551616) (j:e<18446744073709551616) (l:e %2^a=0):gK .u64 b e=b+e:=by obtain⟨g,rfl⟩:=gh d;obtain⟨c,rfl⟩:=gh f;have n:g<2^a:=(by grind);have m:c %2^a=0:=(by grind);rw[adV aa aa];have k:c=(c/2^a)*2^a:=(by grind [Nat.mul_comm,aob]);grind [M6]
def aF (a:X):X:=if a=0 then 0 else a.log2+1
theorem fJ:aF c<=a↔c<2^a:=by grind [Nat.log2_lt,am5,aF]
def rT:a<aF c↔2^a<=c:=by rw[<-Nat.not_le,fJ,Nat.not_lt]
def BQ (a b:X) (c:a<=b):2^a<=2^b:=rJ ab c
def yN (a b:X) (c:a<b):2^a<2^b:=aqn ab c
def jU (b:c<=a):aF c<=aF a:=by rw[fJ];have:=fJ.1 (bc (aF a));omega
theorem xA {b:X} (d:aF a<=j) (e:aF c<=b):aF (a*c)<=j+b:=by simp_all [Nat.mul_lt_mul'',fJ,hy]
theorem aaB {b:X} (d:c<=b*a) (e:j<a):c+j<=(b+1)*a:=by grind
def Wc (a:X) {x y:X} (b:aF x<=a) (c:aF y<=a):aF (x+y)<=a+1:=by rw[fJ] at*;omega
theorem aet {b:X} (e:c*2^j=a*2^b) (f:0<c):0<a:=by
 rcases oK a with d|d
 ·simp_all [Nat.mul_eq_zero,iV,Nat.zero_mul]
 omega
theorem pE {m:X} (a:0<m):0<aF m:=rT.2 a
def NA {k:X} (b:2^k<=a) (c:a<2^(k+1)):aF a=k+1:=by have:=rT.2 b;have:=fJ.2 c;omega
theorem oV (b:0<a):2^(aF a-1)<=a/\a<2^aF a:=
 ⟨rT.1 (by grind [pE]),fJ.1 (bc _)⟩
theorem rU (d:0<a) (b:X):aF (a*2^b)=aF a+b:=by
 obtain⟨e,f⟩:=oV d;have i:=iV b;have h:=pE d;obtain⟨c,g⟩:∃c,aF a=c+1:=⟨aF a-1,aa⟩;rw[g] at e f|-;rw[(aa:c+1+b=(c+b)+1)];refine NA ?_ ?_
 ·simp_all [gj,hy]
 rw[(aa:c+b+1=(c+1)+b),hy];simp_all
def C2 (b a:X):aF (b/2^a)=aF b-a:=by
 have c:=iV a;apply apq
 ·rw[fJ,aoa c,<-hy];exact fJ.1 aa
 rcases cU a (aF b) with d|d
 ·have:aF b-a-1<aF (b/2^a):=by
   rw[rT,apr c,<-hy];exact rT.1 aa
  omega
 omega
def uF (c:bz) (b:Z) (d:bz) (a:Z):bz:=
 if a=1 then c else if a=2 then !c else if a=3 then bq else br (0<b)||(br (b=0)&&d)
def lZ (b a:X) (c:bz):Z:=
 if 2*(b %2^a)<2^a then-1 else if 2^a<2*(b %2^a) then 1 else if c then 1 else 0
def hF (e:bz) (a b:X) (c:bz) (d:Z):X:=
 if a %2^b=0/\c=bq then a/2^b
 else if uF e (lZ a b c) (br (a/2^b %2=1)) d then a/2^b+1 else a/2^b
def aaw (b a c:X):b %2^(a+c)=(b/2^a %2^c)*2^a+b %2^a:=by rw[hy,Nat.mod_mul,anr,j6]
def jH (b:bz) (a:Z):Z:=if b then 9223372036854775808+a else a
def q5 (a:bz) (b:Z):Z:=
 if b=3\/(b=1/\a=bq)\/(b=2/\a=bp) then jH a 9218868437227405311 else jH a 9218868437227405312
def k7 (a:bz) (b:X) (c d:Z):Z:=
 if b<4503599627370496 then jH a b
 else if b=9007199254740992 then if c+1+1075>=2047 then q5 a d else jH a ((c+1+1075)*4503599627370496)
 else if c+1075>=2047 then q5 a d else jH a ((c+1075)*4503599627370496+(b-4503599627370496))
def c8 (b:X) (a:Z):Z:=max (a+aF b-1-52) (-1074)
def la (d:bz) (b:X) (a:Z) (e:bz) (c:Z):Z:=
 if c8 b a<=a then k7 d (b*2^(a-c8 b a).toNat) (c8 b a) c
 else k7 d (hF d b (c8 b a-a).toNat e c) (c8 b a) c
def Bl:X->X->X
 |0,_=>0
 |f+1,a=>if(2*Bl f (a/4)+1)*(2*Bl f (a/4)+1)<=a then 2*Bl f (a/4)+1 else 2*Bl f (a/4)
def JL (a:X):X:=Bl (aF a) a
abbrev oz:=bz×ala×bt
abbrev gB:=bz×oz×Z×bt
def hu (a:oz):Z:=if a.1 then-ag a.2.1 else ag a.2.1
def aN (a:Z):oz:=(br (a<0),eX a.natAbs,())
theorem oy (a:Z):hu (aN a)=a:=by unfold hu aN;simp only[tF,alB];omega
theorem m2 (a:Z):aT (aN a).2.1:=nC _
def E2 (a:Z):fc (aN a).2.1:=ye _
theorem h5 (a:Z):ag (aN a).2.1=a.natAbs:=tF _
theorem vM:(aN b).2.1=[]↔b=0:=by show eX b.natAbs=[]↔_;grind [XE]
theorem OO {neg:bz} (a:aT d) (b:fc d):(neg&&br (d≠[]),d,())=aN (hu (neg,d,())):=by have e:=fe a;have f:d=eX (ag d).toNat:=am6 a b;have g:d=[]↔ag d=0:=⟨λc=>by rw[c];rfl,aon a b⟩;unfold aN hu;grind
def G3:X->X->X
 |0,_=>0
 |f+1,a=>if a %2=0 then G3 f (a/2)+1 else 0
def cR (a:X):X:=if a=0 then 0 else G3 (aF a) a
def ag4:∀{a n:X},0<n->n<2^a->∃b,n=(2*b+1)*2^G3 a n:=by
 intro a
 induction a with
 |zero=>omega
 |succ a e=>
  intro n f g;unfold G3;split
  ·rename_i c;obtain⟨b,d⟩:=e (n:=n/2) aa aa;refine⟨b,?_⟩;rw[nX,<-kz,<-d];omega
  rename_i c;exact⟨n/2,aa⟩
theorem uE {n:X} (b:0<n):∃a,n=(2*a+1)*2^cR n:=by unfold cR;rw[ar aa];exact ag4 b (fJ.1 (bc _))
theorem Q8:∀{s t a b:X},(2*a+1)*2^s=(2*b+1)*2^t->s=t/\a=b
 |0,0,a,b,c=>by omega
 |0,t+1,a,b,c=>by grind
 |s+1,0,a,b,c=>by grind
 |s+1,t+1,a,b,c=>by rw[nX,<-kz,nX,<-kz] at c;obtain⟨d,e⟩:=Q8 (s:=s) (t:=t) (a:=a) (b:=b) aa;omega
theorem zh {a:X} (b:c=(2*a+1)*2^j):cR c=j:=by have e:=iV j;have d:0<c:=(by grind);grind [Q8,uE]
theorem G4 (e:0<c) (b:X):cR (c*2^b)=cR c+b:=by obtain⟨d,f⟩:=uE e;refine zh (a:=d) ?_;grind
theorem ag5 {n:X} (a:0<n):n/2^cR n %2=1:=by grind [aps,am5,uE]
theorem qc {n:X} (a:0<n):cR n<aF n:=by obtain⟨b,c⟩:=uE a;rw[rT];grind
theorem tV {n k:X} (d:0<n):k<=cR n↔n %2^k=0:=by
 obtain⟨c,f⟩:=uE d;constructor
 ·intro i;obtain⟨a,b⟩:∃a,cR n=a+k:=⟨cR n-k,aa⟩;rw[b,hy,<-kz] at f;simp_all
 intro j;rcases cU (cR n) k with e|e
 ·exfalso;obtain⟨a,b⟩:∃a,k=cR n+(a+1):=⟨k-cR n-1,aa⟩;have g:n=n/2^k*2^k:=(by grind [Nat.mul_comm,aob]);have l:=iV (cR n);have h:(2*c+1)*2^cR n=(2*(n/2^k*2^a))*2^cR n:=by
   grind
  grind [Nat.eq_of_mul_eq_mul_right]
 omega
def rj (b a:Z):Z:=b*2^a.toNat/2^(-a).toNat
def hh (a b:Z):eA:=
 if a=0 then Y 0
 else if b+cR a.natAbs< -65536\/65536<b+aF a.natAbs then bo
 else Y (rj a (b+65536))
def aA:eA->gB
 |none=>(bp,(bq,[],()),0,())
 |some a=>if a=0 then(bq,(bq,[],()),0,()) else(bq,aN (a/2^cR a.natAbs),(cR a.natAbs:Z)-65536,())
def gz (a:Z):Prop:=aF a.natAbs<=131072
instance(a:Z):alQ (gz a):=inferInstanceAs (alQ (_<=_))
def n9 (a:Z):eA:=if gz a then Y a else bo
def c4 (b:eA):Prop:=∀a,b=Y a->gz a
theorem i7 (b:Z) (a:X):(b*2^a).natAbs=b.natAbs*2^a:=by rw[lj,Int.natAbs_pow];rfl
theorem ET (c:b.natAbs %2^a=0):b/2^a*2^a=b:=by grind [Int.ediv_mul_cancel,Int.ofNat_dvd_left,Nat.dvd_of_mod_eq_zero]
theorem BF (c:b.natAbs %2^a=0):(b/2^a).natAbs=b.natAbs/2^a:=by grind [i7,aps,am5,ET]
theorem pg (b:Z) (a:X):rj b a=b*2^a:=by grind [alL,rj]
theorem za (b:Z) (a:X):rj b (-(a:Z))=b/2^a:=by simp_all [Int.neg_neg,fP,rj]
def cD (a:Z):Z:=a/2^cR a.natAbs
def cW (a:Z):Z:=(cR a.natAbs:Z)-65536
theorem pY (a:Z):cD a*2^cR a.natAbs=a:=by
 rcases oK a.natAbs with b|b
 ·obtain rfl:a=0:=aa;rfl
 exact ET ((tV b).1 (bc _))
def Q5 (a:b≠0):(cD b).natAbs=b.natAbs/2^cR b.natAbs:=BF ((tV aa).1 (bc _))
theorem j1 (c:b≠0):cD b≠0:=λa=>by grind [pY]
def Q7 (c:b≠0):cR (cD b).natAbs=0:=by rw[Q5 c];have:=ag5 (n:=b.natAbs) aa;exact zh (a:=b.natAbs/2^cR b.natAbs/2) aa
theorem yF (a:b≠0):aF (cD b).natAbs=aF b.natAbs-cR b.natAbs:=by rw[Q5 a,C2]
theorem BH {v:Z}:cD v<0↔v<0:=by
 have c:=pY v;have b:(0:Z)<2^cR v.natAbs:=lm ab;constructor
 ·intro a;have:=Int.mul_neg_of_neg_of_pos a b;omega
 grind [al8,am7,alq]
theorem OQ (a:b≠0):aA (Y b)=(bq,aN (cD b),cW b,()):=by show(if b=0 then _ else _)=_;rw[ar a];rfl
theorem BB {v:Z} (i:-65536<=b) (c:v=e*2^(b+65536).toNat):hh e b=n9 v:=by
 obtain⟨d,g⟩:∃d:X,b+65536=d:=⟨(b+65536).toNat,aa⟩;rw[g,fP] at c;unfold hh n9;by_cases f:e=0
 ·subst f;simp only[nm] at c;subst c;rw[au bn,au (show gz 0 from(by decide:aF 0<=131072))]
 rw[ar f];have h:aF v.natAbs=aF e.natAbs+d:=(by grind [i7,rU]);by_cases a:gz v
 ·rw[au a];unfold gz at a;rw[ar aa,g,pg,c]
 rw[ar a];unfold gz at a;grind
theorem aar (a:gz b):hh (cD b) (cW b)=Y b:=by
 by_cases c:b=0
 ·subst c;rfl
 rw[BB (v:=b) (by grind [cW]) (by
  grind [pY,cR,cW])]
 exact au a
theorem Kn (f a:Z):c4 (hh f a):=by
 intro i b;unfold hh at b;split at b
 ·cases b;show aF 0<=_;decide
 split at b
 ·cases b
 rename_i g h;cases b;unfold gz;rcases aqo 0 (a+65536) with e|e
 ·obtain⟨c,d⟩:∃c:X,a+65536=c:=⟨(a+65536).toNat,aa⟩;grind [pg,i7,rU]
 obtain⟨c,d⟩:∃c:X,a+65536=-(c:Z):=⟨(-(a+65536)).toNat,aa⟩;rw[d,za,BF ((tV aa).1 aa),C2];omega
theorem WF (a:Z):c4 (n9 a):=by intro c b;grind [n9]
def yV (a b c:X) (f:bz) (d e:Z):Z:=la f (b*2^a/c) (d-a) (br (b*2^a %c≠0)) e
def Gp {k:X} (h:0<a) (e:0<c) (i:58+aF c<=aF a+k):58<=aF (a*2^k/c):=by
 rcases cU 57 (aF (a*2^k/c)) with b|b
 ·exact b
 exfalso;have d:a*2^k/c<2^57:=fJ.1 b;rw[aoa e] at d;have f:=(oV e).2;have g:a*2^k<2^57*2^aF c:=jE d (xd _ (Nat.le_of_lt f));rw[<-hy,<-fJ,rU h] at g;omega
def SZ (a b:X) (c d:Z):Z:=la bq (JL (b*2^a)) ((c-a)/2) (br (JL (b*2^a)*JL (b*2^a)≠b*2^a)) d
def p4 (a b:Z):Z:=if a=0 then 0 else la (br (a<0)) (cD a).natAbs (cW a) bq b
def oj (a b:X):X:=59+aF b-aF a
def om (a b c:Z):Z:=yV (oj (cD a).natAbs (cD b).natAbs) (cD a).natAbs (cD b).natAbs (br (a<0)!=br (b<0)) (cW a-cW b) c
def SY (a:X) (b:Z):X:=if(b-((118-aF a:X):Z)) %2=0 then 118-aF a else 118-aF a+1
def Ly (a b:Z):Z:=SZ (SY (cD a).natAbs (cW a)) (cD a).natAbs (cW a) b
theorem eT {b:bm m} (c:a<b.length):aw b (a:Z)=Y b[a]:=gJ (cE c)
theorem Cl (b:a<9223372036854775808):ay (a:Z)=(a:Z):=cu aa aa
theorem cG {x:Z} (a:-9223372036854775808<=x) (b:x<=9223372036854775807):ay x=x:=cu a b
theorem bg (b:a<9223372036854775807):aQ (a:Z)=((a+1:X):Z):=by grind [cu]
theorem fL {x:Z} (a:0<=x) (b:x<18446744073709551616):aL x=x:=Cm a b
theorem lH {x:Z} (a:0<=x) (b:x<4294967296):eD x=x:=Mi a b
theorem qe (a:Z):eD a=a %4294967296:=Mh a
theorem sJ (a:Z):aL a=a %18446744073709551616:=Hf a
theorem sk (a:0<=b) (c:b<18446744073709551616):eD (e0 bD b 4294967295)=b %4294967296:=by rw[and_low32 a c,lH aa aa]
theorem bb (a:bm m):ao a=(a.length:Z):=rfl
theorem GO {b:bm m} (e:a<=b.length):((Y (0:X)).bind λc=>(hj (a:Z)).bind λd=>(hX c d b.length).map λ_=>(c,d))=Y (0,a):=by simp_all [aI,wh,vZ,eJ]
theorem pi (n:aT d) (o:d.length<=100000000):iZ (d,())=Y (iR d,()):=by
 unfold iZ;refine bO.1 ?_;refine ae.aO (P:=λk=>∃a:X,k.1=(a:Z)/\a<=d.length/\(∀b,a<=b->(i:b<d.length)->d[b]=0)/\fc (d.take a)) ?_ ?_
 ·refine alv (λf=>∃a:X,f.1=(a:Z)/\a<=d.length/\(∀b,a<=b->(i:b<d.length)->d[b]=0)) (λf=>f.1.toNat) ⟨d.length,bn,bc _,λb c e=>by omega⟩ ?_;rintro⟨_,_⟩ ⟨a,rfl,c,e⟩;rcases a with _|a
  ·refine bv.2 ⟨0,bn,eJ _,e,λl j=>by grind⟩
  have al:ay (((a+1:X):Z)-1)=(a:Z):=(by grind [cG]);have h:br (((a+1:X):Z)>0)=bp:=aH aa;simp only[al,h,alJ,bF,eT (show a<d.length from c),aI];by_cases g:d[a]=0
  ·rw[g2,aH g];grind [cn,bv]
  rw[g2,aD g];refine bv.2 ⟨a+1,bn,c,e,λl j=>?_⟩;grind
 rintro⟨_,_⟩ ⟨a,rfl,c,e,m⟩;refine ae.of_eq (ai (GO c) rfl) ?_;grind [T9]
theorem z8 (b:d.length<=100000000):vx (d,())=Y (d,()):=by unfold vx;have a:((cN (([]:ala).length+d.length)).bind λ_=>Y (([]++d:ala),()))=Y (d,()):=(by grind [e3]);show ss d.length (Y ([],())) ((cN (([]:ala).length+d.length)).bind λ_=>Y (([]++d:ala),()))=_;unfold ss;grind
theorem ua:(ao d==0)=br (d=[]):=by simp_all [List.length_eq_zero_iff,g2,cB]
theorem xx (c:aT d) (e:d.length<=100000000):mw (h,d,())=Y (aN (hu (h,d,())),()):=by unfold mw;refine ai (pi c e) ?_;have a:=OO (neg:=h) (L5 d) (T8 d);have b:hu (h,iR d,())=hu (h,d,()):=(by grind [L6,hu]);rw[<-b,<-a];simp only[ua,c7];grind
def XB (c:b.natAbs<2^(32*a)):(aN b).2.1.length<=a:=by refine r9 ?_;unfold aY;have d:(2^(32*a):X)=4294967296^a:=(by rw[apt]);rw[d] at c;have:((4294967296^a:X):Z)=4294967296^a:=ac;omega
def Fit (a:Z):Prop:=(aN a).2.1.length<=31250
def XA (a:X) (c:aF b.natAbs<=32*a):(aN b).2.1.length<=a:=XB (fJ.1 c)
def jX (a:aF b.natAbs<=1000000):Fit b:=XA 31250 aa
def aaU {b:oz} (c:aT b.2.1) (a:b.2.1.length<=100000000):Dz (b,())=Y (aN (hu b),()):=by obtain⟨e,d,_⟩:=b;unfold Dz;exact ai (z8 a) (ai (xx c a) rfl)
theorem G8 (a:bz) (b:ala):hu (!a,b,())=-hu (a,b,()):=by unfold hu;cases a<;>simp
theorem Ul (b:aT d) (a:bz):hu (bq,d,())=(hu (a,d,())).natAbs:=by have:=fe b;unfold hu;cases a<;>simp<;>omega
def Q0 (e:Fit b):tv (aN b,())=Y (aN (-b),()):=by unfold tv;have a:(aN b).2.1.length<=100000000:=cO e ab;refine ai (z8 a) (ai (xx (m2 b) a) ?_);have c:=G8 (aN b).1 (aN b).2.1;have d:=oy b;rw[c];show Y (aN (-hu (aN b)),())=_;rw[d]
def zR (d:Fit b):tr (aN b,())=Y (aN b.natAbs,()):=by unfold tr;have a:(aN b).2.1.length<=100000000:=cO d ab;refine ai (z8 a) (ai (xx (m2 b) a) ?_);rw[Ul (m2 b) (aN b).1];have c:=oy b;show Y (aN ((hu (aN b)).natAbs:Z),())=_;rw[c]
def T6 (c:Fit b):iZ ((aN b).2.1,())=Y ((aN b).2.1,()):=by rw[pi (m2 b) (cO c ab)];have a:=am6 (m2 b) (E2 b);show Y (eX (ag (aN b).2.1).toNat,())=_;rw[<-a]
def fB (a:Z):Z:=if a=0 then 0 else if a<0 then-1 else 1
def uB {z:Z} (a:Fit z):qL (aN z,())=Y (fB z,()):=by
 unfold qL;refine ai (T6 a) ?_;simp only[ua,c7,vM];unfold fB;split
 ·rfl
 show(bif br (z<0) then _ else _)=_;rw[c7];split<;>rfl
theorem ae.steps {h:m->bu (m⊕t)} {g:t->Prop} (f:X) (d:X->m->Prop) {l:m} (o:d 0 l) (q:∀b a,b<f->d b a->ae (h a) (λ|.inl s=>d (b+1) s|.inr c=>g c)) (p:∀a,d f a->ae (h a) (λ|.inl _=>b4|.inr c=>g c)):ae (jN.loop h l) g:=by
 have r:∀e b a,b+e=f->d b a->∃c,kJ h (e+1) a=Y c/\g c:=by
  intro e
  induction e with
  |zero=>
   intro b a n k;obtain rfl:b=f:=n;obtain⟨u,i,j⟩:=p a k;grind [kJ]
  |succ e v=>
   intro b a n k;obtain⟨u,i,j⟩:=q b a aa k;grind [kJ]
 obtain⟨c,i,j⟩:=r f 0 l aa o;exact⟨c,Bs.2 ⟨_,i⟩,j⟩
theorem zk (b:ala) (a:X):ag (b.take (a+1))=ag (b.take a)+aY a*b.getD a 0:=by grind [ch,am0,iS,bX,cn]
theorem aT.getD {a:ala} (d:aT a) (c:X):0<=a.getD c 0/\a.getD c 0<4294967296:=by
 rcases cU c a.length with b|b
 ·rw[ky,cE b];exact d.get b
 grind
theorem kr (b:a<d.length):d.getD a 0=d[a]:=by grind
theorem pQ (b:d.length<=a):d.getD a 0=0:=by grind
theorem Sd (r:aT d) (s:aT f) (y:d.length<=10000000) (z:f.length<=10000000):xO (d,f,())=Y (eX (ag d+ag f).toNat,()):=by
 unfold xO;refine bO.1 ?_;refine ae.aO (P:=λh=>∃i p,h=(i,p,())/\aT i/\aT p/\i.length<=10000000/\p.length<=i.length/\ag i+ag p=ag d+ag f) ?_ ?_
 ·simp only[c7];refine ae.ite (λj=>bv.2 ⟨f,d,bn,s,r,z,?_,aoo _ _⟩) λj=>bv.2 ⟨d,f,bn,r,s,y,?_,bn⟩
  ·grind
  grind
 rintro _ ⟨c,m,rfl,B,C,I,F,w⟩;rw[<-w];clear w r s y z;dsimp only;have A:aQ (ao c)=((c.length+1:X):Z):=bg aa;have al:gg 0 ((c.length+1:X):Z)=Y 0:=(by unfold gg;rw[ca ⟨aa,aa,by have:hN=4294967296:=rfl;omega⟩];rfl);rw[A,al];refine ae.aO (P:=λh=>∃b a,h=(b,a,())/\a.length=c.length/\aT a/\0<=b/\b<=1/\ag a+aY c.length*b=ag c+ag m) ?_ ?_
 ·refine ae.steps c.length (λe D=>∃b a,D=(b,(e:Z),a,())/\a.length=e/\aT a/\0<=b/\b<=1/\ag a+aY e*b=ag (c.take e)+ag (m.take e)) ⟨0,[],bn,bn,alR,aa,aa,by simp[ag]⟩ ?_ ?_
  ·rintro e _ t ⟨b,a,rfl,n,k,l,q,v⟩;have G:=B.get t;have H:=C.getD e;have o:∃g,g=c[e]+b+m.getD e 0/\0<=g/\g<18446744073709551616/\g/4294967296<=1:=⟨_,bn,aa,aa,aa⟩;obtain⟨g,o,J,K,E⟩:=o;have u:br ((e:Z)<ao c)=bp:=aH (by grind);simp only[u,bF,eT t,aI];refine ae.aO (P:=λh=>h=(g/4294967296,a++[g %4294967296],())) ?_ ?_
   ·refine ae.aO (P:=λh=>h=(g,a,())) ?_ ?_
    ·simp only[c7];refine ae.ite (λj=>?_) λj=>?_
     ·grind [fL,bv,kr,eT,bb]
     have j:m.length<=e:=(by grind);rw[pQ j] at o;refine bv.2 ?_;rw[fL (x:=c[e]) aa aa,fL (x:=c[e]+b) aa aa,o,anH]
    grind [e3,sk,nN,bv]
   rintro _ rfl;dsimp only;refine bv.2 ⟨g/4294967296,a++[g %4294967296],by rw[bg aa],by grind,k.snoc aa aa,aa,E,?_⟩;rw[rr,n,h9,iS t,zk];grind
  rintro _ ⟨b,a,rfl,n,k,l,q,v⟩;have u:br ((c.length:Z)<ao c)=bq:=aD (by grind);simp only[u,bP];refine bv.2 ⟨b,a,bn,n,k,l,q,?_⟩;simp_all [fU,bc]
 rintro _ ⟨b,a,rfl,n,k,l,q,v⟩;dsimp only;rw[e3 (by grind),lH l aa];refine ae.of_eq (ai bn (ai (pi (k.snoc l aa) (by grind)) rfl)) ?_;grind [rr,iR]
def jg (b:ala) (c:X):Prop:=∀a,c<=a->(d:a<b.length)->b[a]=0
def jg.mb (b a:X):jg (bJ b (0:Z)) a:=λd _ c=>by simp
def jg.set {b:ala} {a:X} (c:jg b a) (e:Z):jg (b.set a e) (a+1):=λd f g=>by rw[zD aa];exact c d aa _
def jg.LH {j:X} (b:jg d a) (f:Z) (g:j<a):jg (d.set j f) a:=λe c h=>by rw[zD aa];exact b e c _
theorem QF (q:aT d) (r:aT f) (C:d.length<=10000000) (y:f.length<=d.length) (z:ag f<=ag d):xN (d,f,())=Y (eX (ag d-ag f).toNat,()):=by
 unfold xN;refine bO.1 ?_;simp only[bb,im (aa:d.length<=4294967296),aI];refine ae.aO (P:=λh=>∃a b,h=(a,())/\a.length=d.length/\aT a/\0<=b/\b<=1/\ag a-aY d.length*b=ag d-ag f) ?_ ?_
 ·refine ae.steps d.length (λc t=>∃b a,t=(b,(c:Z),a,())/\a.length=d.length/\aT a/\jg a c/\0<=b/\b<=1/\ag a-aY c*b=ag (d.take c)-ag (f.take c)) ⟨0,_,bn,ac,alS _,jg.mb _ _,aa,aa,by simp[ag,qd]⟩ ?_ ?_
  ·rintro c _ l ⟨b,a,rfl,i,g,n,j,k,o⟩;have A:=q.get l;have B:=r.getD c;obtain⟨e,x,u,v⟩:∃e,e=d[c]-b-f.getD c 0/\-4294967296<=e/\e<4294967296:=⟨_,bn,aa,aa⟩;have m:br ((c:Z)<(d.length:Z))=bp:=aH aa;simp only[bb,m,bF,eT l,aI];refine ae.aO (P:=λh=>h=(-(e/4294967296),a.set c (e %4294967296),())) ?_ ?_
   ·refine ae.aO (P:=λh=>h=(e %18446744073709551616,a,())) ?_ ?_
    ·simp_all [pQ,bv,sJ,eT,kr,ae.ite,c7]
    rintro _ rfl;dsimp only;rw[sk aa aa,lI aa,nN];refine bv.2 ?_;rw[ta 1 aa aa 1 ab ab];grind
   rintro _ rfl;dsimp only;refine bv.2 ⟨-(e/4294967296),a.set c (e %4294967296),by rw[bg aa],by grind,g.set aa aa,n.set _,aa,aa,?_⟩;rw[nk aa,n c (cf _) aa,h9,iS l,zk];grind
  rintro _ ⟨b,a,rfl,i,g,n,j,k,o⟩;have m:br ((d.length:Z)<(d.length:Z))=bq:=aD aa;simp only[bb,m,bP];refine bv.2 ⟨a,b,bn,i,g,j,k,?_⟩;simp_all [fU,bc]
 rintro _ ⟨a,b,rfl,i,g,j,k,o⟩;dsimp only;have p:=hm g;have w:=fZ d.length;rw[i] at p;have s:b=0:=(by grind);subst s;refine ae.of_eq (ai (pi g aa) rfl) ?_;grind [iR]
def gb (a b:Z):Z:=if a<b then-1 else if b<a then 1 else 0
theorem C9 (a b:Z):vj (a,b,())=Y (gb a b,()):=by grind [vj,tn,gb]
theorem WV (a b:Z):Dc (a,b,())=Y (gb a b,()):=by grind [Dc,De,gb]
theorem G9 (e:aT d) (g:aT f) (h:a<d.length) (i:a<f.length) (b:ag (d.drop (a+1))=ag (f.drop (a+1))) (l:d[a]<f[a]):ag d<ag f:=by rw[pj d a aa,pj f a aa,nj h,nj i,b];have c:=hm (e.take a);have j:=fe (g.take a);rw[gu,hR aa] at c;have k:aY a*(d[a]+1)<=aY a*f[a]:=jO aa (fw (fZ a));grind
theorem rq (a:aT f) (b:aT d) (c:fc d) (e:f.length<d.length):ag f<ag d:=by have g:=hm a;have h:=fc.low b c (by grind);have i:=p2 (m:=f.length) (n:=d.length-1) aa;omega
theorem In (g:aT d) (h:aT f) (q:fc d) (r:fc f) (u:d.length<=10000000) (v:f.length<=10000000):xM (d,f,())=Y (gb (ag d) (ag f),()):=by
 unfold xM;refine bO.1 ?_;simp only[fQ,bb];by_cases m:d.length=f.length
 ·rw[aH (aa:(d.length:Z)=f.length)];simp only[iG,bP];refine ae.aO (P:=λn=>match n with|.inl _=>ag d=ag f|.inr o=>o=(gb (ag d) (ag f),())) ?_ ?_
  ·refine ae.steps d.length (λc p=>p=(((d.length:X):Z)-1-c,())/\ag (d.drop (d.length-c))=ag (f.drop (d.length-c))) ⟨?_,?_⟩ ?_ ?_
   ·grind [cG]
   ·rw[qn aa,qn aa]
   ·rintro c _ s ⟨rfl,e⟩;obtain⟨a,t⟩:∃a,d.length=a+1+c:=⟨d.length-1-c,aa⟩;have al:((d.length:X):Z)-1-(c:Z)=(a:Z):=aa;have j:a<d.length:=aa;have k:a<f.length:=aa;rw[(aa:d.length-c=a+1)] at e;simp only[al,aH (aa:(a:Z)>=0),bF,eT j,eT k,aI,WV];by_cases i:d[a]=f[a]
    ·simp only[aH i,iG,bP];grind [nj,cG,bv]
    simp only[aD i,oA,bF];refine bv.2 ?_;show(gb d[a] f[a],())=_;have l:gb d[a] f[a]=gb (ag d) (ag f):=by
     unfold gb;rcases Int.lt_or_gt_of_ne i with b|b
     ·rw[au b,au (G9 g h j k e b)]
     have:=G9 h g k j e.symm b;omega
    rw[l]
   rintro _ ⟨rfl,e⟩;have al:¬(((d.length:X):Z)-1-(d.length:Z)>=0):=aa;simp_all [bv,aD,bP]
  grind [bv,gb,ag]
 rw[aD (aa:¬(d.length:Z)=f.length)];simp only[oA,bF,C9,aI];refine bv.2 ?_;congr 1;unfold gb;rcases Nat.lt_or_gt_of_ne m with b|b
 ·rw[au aa,au (rq g h r b)]
 have:=rq h g q b;omega
def BD {x y:Z} (b:0<=x/\x<4294967296) (a:0<=y/\y<4294967296):0<=x*y/\x*y<=18446744065119617025:=by refine⟨lO b.1 a.1,?_⟩;have c:x*y<=4294967295*y:=nQ aa a.1;omega
theorem afH (x:0<=b/\b<4294967296) (w:aT d) (K:a+d.length<c) (I:c<=100000000) (u:f.length=c) (v:aT f) (z:jg f (a+d.length)) {p:jf->Prop} (J:∀h e,e.length=c->aT e->jg e (a+d.length)->0<=h->h<4294967296->ag e+aY (a+d.length)*h=ag f+aY a*(b*ag d)->p (h,e,())):ae (loop (σ:=qD) (ρ:=jf) (λ(k,j,m,_)=>
 bif br (j<ao d) then
 (aw d j).bind λr=>
 rd m (ay ((a:Z)+j)) λs=>
 wr m (ay ((a:Z)+j)) (eD (e0 bD (aL (aL (aL (aL b*aL r)+aL s)+k)) 4294967295)) λH=>
 (eQ bD (aL (aL (aL (aL b*aL r)+aL s)+k)) 32).bind λG=>
 Y (.inl (G,aQ j,H,())) else
 Y (.inr (k,m,()))) (0,0,f,())) p:=by
 refine ae.steps d.length (λg D=>∃h e,D=(h,(g:Z),e,())/\e.length=c/\aT e/\jg e (a+d.length)/\0<=h/\h<4294967296/\ag e+aY (a+g)*h=ag f+aY a*(b*ag (d.take g))) ⟨0,f,bn,u,v,z,aa,aa,by simp[ag]⟩ ?_ ?_
 ·rintro g _ l ⟨h,e,rfl,ax,o,q,A,B,C⟩;have y:=w.get l;have M:=o.get (n:=a+g) aa;have L:=BD x y;obtain⟨i,N,E,F⟩:∃i,i=b*d[g]+e[a+g]+h/\0<=i/\i<18446744073709551616:=⟨_,bn,aa,aa⟩;simp only[aH (show(g:Z)<ao d by grind),bF,eT l,aI];have al:ay ((a:Z)+(g:Z))=((a+g:X):Z):=(by grind [cG]);rw[al,iE aa];have t:aL (aL (aL (aL b*aL d[g])+aL e[a+g])+h)=i:=by
   grind [fL]
  rw[t,sk E F,lI aa,nN];refine bv.2 ⟨i/4294967296,e.set (a+g) (i %4294967296),by rw[bg aa],by grind,o.set aa aa,q.LH _ aa,aa,aa,?_⟩;rw[nk aa,(aa:a+(g+1)=(a+g)+1),h9,iS l];grind [uL,amB]
 rintro _ ⟨h,e,rfl,ax,o,q,A,B,C⟩;simp_all [fU,bc,bv,aD,bb,bP,ao]
theorem agU (v:aT f) (w:aT d) (z:f.length<=10000000) (A:d.length<=10000000):DD (f,d,())=Y (eX (ag f*ag d).toNat,()):=by
 unfold DD;refine bO.1 ?_;simp only[ua];refine ae.aO (P:=λp=>match p with|.inl _=>f≠[]/\d≠[]|.inr h=>h=(eX (ag f*ag d).toNat,())) ?_ ?_
 ·by_cases l:f=[]
  ·simp only[aH l];refine bv.2 ?_;subst l;simp[ag];rfl
  simp only[aD l,alJ,bF];by_cases r:d=[]
  ·simp only[aH r,bF];refine bv.2 ?_;subst r;simp[ag];rfl
  simp_all [aD,bP,bv]
 rintro(p|p) x
 rotate_left
 ·grind [bv]
 clear x;dsimp only;have u:ay (ao f+ao d)=((f.length+d.length:X):Z):=(by grind [cG,bb]);rw[u,im aa,bN];refine ae.aO (P:=λh=>∃a,h=(a,())/\a.length=f.length+d.length/\aT a/\ag a=ag f*ag d) ?_ ?_
 ·refine ae.steps f.length (λb y=>∃a,y=((b:Z),a,())/\a.length=f.length+d.length/\aT a/\jg a (b+d.length)/\ag a=ag (f.take b)*ag d) ⟨_,bn,ac,alS _,jg.mb _ _,by simp[ag,qd]⟩ ?_ ?_
  ·rintro b _ m ⟨a,rfl,ax,g,q,t⟩;simp only[aH (show(b:Z)<ao f by grind),bF,eT m,bN];refine ae.aO (P:=λh=>∃e c,h=(e,c,())/\c.length=f.length+d.length/\aT c/\jg c (b+d.length)/\0<=e/\e<4294967296/\ag c+aY (b+d.length)*e=ag a+aY b*(f[b]*ag d)) (afH (v.get m) w aa aa ax g q λe c s n i j k o=>⟨e,c,bn,s,n,i,j,k,o⟩) ?_;rintro _ ⟨e,c,rfl,s,n,i,j,k,o⟩;have al:ay ((b:Z)+ao d)=((b+d.length:X):Z):=(by grind [cG,bb]);dsimp only;rw[al,lH j k,lI aa];refine bv.2 ⟨c.set (b+d.length) e,by rw[bg aa],by grind,n.set j k,?_,?_⟩
   ·rw[(aa:b+1+d.length=b+d.length+1)];exact i.set _
   rw[nk aa,i _ (bc _) aa,iS m,aop,o,t];grind
  rintro _ ⟨a,rfl,ax,g,q,t⟩;simp only[aD (show¬((f.length:Z)<ao f) by grind),bP];refine bv.2 ⟨a,bn,ax,g,?_⟩;grind
 rintro _ ⟨a,rfl,ax,g,q⟩;refine ae.of_eq (ai (pi g (by grind)) rfl) ?_;grind [iR]
theorem ZS:∀a:X,a<256->rp FI (a:Z)=Y (aF a:Z):=by have b:(bI 256).all (λa=>rp FI (a:Z)==Y (aF a:Z))=bp:=(by decide+kernel);grind
theorem LI {x y:Z} (a:0<=y) (b:y<=32):eQ .u32 x y=Y (x/2^y.toNat):=by unfold eQ;rw[au a,show cd.bits=32 from rfl,hR aa,aqm _ (by grind)]
def Ty (a:0<=b) (c:b<=32):it .u32 e b=Y ((e*2^b.toNat) %4294967296):=by unfold it;rw[au a,Mh,show cd.bits=32 from rfl,hR aa]
def ahE (a:0<=b) (c:b<256):apk.wrap b=b:=by unfold am1;refine(ar (ac:¬(bq&&br (b %256>=(128:Z)))=bp)).trans ?_;show b %256=b;omega
def NB {n k:X} (a:2^k<=n):aF n=aF (n/2^k)+k:=by rw[C2];have:=rT.2 a;omega
theorem J0 {n:X} (g:n<4294967296):xU ((n:Z),())=Y ((aF n:Z),()):=by
 unfold xU;refine bO.1 ?_;refine ae.aO (P:=λd=>∃a b:X,d=((a:Z),(b:Z),())/\a<65536/\aF n=aF a+b/\b<=16) ?_ ?_
 ·simp only[c7];refine ae.ite (λe=>?_) λe=>?_
  ·rw[LI ab ab];refine bv.2 ⟨n/2^16,16,?_,aa,NB aa,aa⟩;simp
  exact bv.2 ⟨n,0,bn,aa,bn,aa⟩
 rintro _ ⟨a,b,rfl,e,h,i⟩;refine ae.aO (P:=λd=>∃a b:X,d=((a:Z),(b:Z),())/\a<256/\aF n=aF a+b/\b<=24) ?_ ?_
 ·simp only[c7];refine ae.ite (λc=>?_) λc=>?_
  ·rw[LI ab ab];refine bv.2 ⟨a/2^8,b+8,?_,aa,by have:=NB (n:=a) (k:=8) aa;omega,aa⟩;grind [cu]
  grind [bv]
 rintro _ ⟨f,o,rfl,c,j,l⟩;dsimp only;rw[ahE aa aa,ZS f c];refine bv.2 ?_;have m:aF f<=8:=fJ.2 aa;grind [cu]
theorem Wd {l:ala} {x:Z} (g:aT l) (p:0<x):aF (ag l+aY l.length*x).toNat=32*l.length+aF x.toNat:=by
 obtain⟨b,rfl⟩:=gh (fw p);obtain⟨d,o⟩:=gh (fe g);have f:=hm g;rw[o] at f|-;have n:aY l.length=((2^(32*l.length):X):Z):=(by simp_all [apt,aY]);rw[n] at f|-;generalize 32*l.length=a at*;have h:0<b:=aa;have j:((d:Z)+((2^a:X):Z)*(b:Z)).toNat=d+2^a*b:=aa;show aF ((d:Z)+((2^a:X):Z)*(b:Z)).toNat=_;rw[j];obtain⟨e,i⟩:=oV h;have q:=pE h;obtain⟨c,m⟩:∃c,aF b=c+1:=⟨aF b-1,aa⟩;show _=a+aF b;rw[m] at e i|-;have r:d<2^a:=aa;refine NA (k:=a+c) ?_ ?_
 ·rw[hy];have:=xd (2^a) e;grind
 rw[nX,hy] at*;have:=xd (2^a) (aa:b+1<=2^c*2);grind
theorem Qc (c:aT d) (h:fc d) (k:d.length<=10000000):Ar (d,())=Y ((aF (ag d).toNat:Z),()):=by
 unfold Ar;simp only[ua,c7];split
 ·rename_i a;subst a;rfl
 rename_i a;have m:0<d.length:=sV.2 a;have al:ay (ao d-1)=((d.length-1:X):Z):=(by grind [cG,bb]);rw[al,eT aa];have e:=c.get (n:=d.length-1) aa;have i:d[d.length-1]≠0:=h _ (by rw[aqp,cE aa]);have f:ag d=ag (d.take (d.length-1))+aY (d.length-1)*d[d.length-1]:=(by grind [iS,ch]);have b:=Wd (l:=d.take (d.length-1)) (x:=d[d.length-1]) (c.take _) aa;rw[gu,hR aa,<-f] at b;rw[b];obtain⟨n,g⟩:=gh e.1;rw[g] at e|-;refine ai bn (ai (J0 (n:=n) aa) ?_);have j:aF n<=32:=fJ.2 aa;grind [cG]
def xz (a:Fit b):tu (aN b,())=Y ((aF b.natAbs:Z),()):=by unfold tu;refine ai (T6 a) (ai (Qc (m2 b) (E2 b) (cO a ab)) ?_);rw[h5];rfl
theorem Z5 (q:c=(2*j+1)*2^a) (m:c<2^32):c&&&(2^32-c)=2^a:=by
 have p:=iV a;have n:0<c:=(by grind);obtain⟨e,g⟩:∃e,c=e+1:=⟨c-1,aa⟩;have l:e=2^a*(2*j)+(2^a-1):=(by grind);have r:c=2^a*(2*j+1)+0:=(by grind);refine aqq λb=>?_;rw[aqr,g,Nat.testBit_two_pow_sub_succ aa,<-g];have al:c.testBit b=if b<a then bq else(2*j+1).testBit (b-a):=by grind
 have i:e.testBit b=if b<a then(2^a-1).testBit b else(2*j).testBit (b-a):=by rw[l,Nat.testBit_two_pow_mul_add _ aa]
 rw[al,i,apf];by_cases f:b<a
 ·grind
 rw[ar f,ar f];by_cases k:a=b
 ·subst k;have d:a<32:=by
   rcases cU a 32 with d|d
   ·exact d
   have:=rJ (ab:1<=2) d;omega
  grind
 obtain⟨h,o⟩:∃h,b-a=h+1:=⟨b-a-1,aa⟩;grind
theorem Wk:∀a:X,a<32->aw qI (2^a*125613361 %4294967296/2^(27:Z).toNat)=Y (a:Z):=by have b:(bI 32).all (λa=>aw qI (2^a*125613361 %4294967296/2^(27:Z).toNat)==Y (a:Z))=bp:=(by decide+kernel);grind
theorem Ue (e:0<a) (c:a<4294967296) (b:Z):eD (e0 cd (a:Z) (eD (0-(a:Z)))*b)=2^cR a*b %4294967296:=by obtain⟨g,f⟩:=uE e;have al:eD (0-(a:Z))=((2^32-a:X):Z):=(by grind [qe]);have d:((2^cR a:X):Z)=2^cR a:=ac;rw[al,M3 c aa,Z5 f c,qe,d]
theorem Uf {n:X} (b:0<n) (a:n<4294967296):xV ((n:Z),())=Y ((cR n:Z),()):=by have e:cR n<32:=jE (qc b) (fJ.2 a);have d:=Wk _ e;have c:=LI (x:=eD (e0 cd (n:Z) (eD (0-(n:Z)))*125613361)) (y:=27) ab ab;rw[Ue b a 125613361] at c;unfold xV;show(bif (n:Z)==0 then Y (32,()) else(eQ cd (eD (e0 cd (n:Z) (eD (0-(n:Z)))*125613361)) 27).bind λf=>(aw qI f).bind λg=>Y (ay g,()))=_;rw[a2 (by grind),Ue b a 125613361,c];refine ai bn (ai d ?_);grind [cG]
theorem Ug {x:Z} (r:ag (d.take c)=0) (g:c<d.length) (h:aT d) (s:d[c]≠0):cR (ag d).toNat=32*c+cR (d[c]).toNat:=by
 have q:=h.get g;rw[pj d c aa,r,nj g];have p:=fe (h.drop (c+1));generalize ag (d.drop (c+1))=u at*;generalize d[c]=v at*;obtain⟨b,rfl⟩:=gh q.1;obtain⟨e,rfl⟩:=gh p;have i:0<b:=aa;obtain⟨j,m⟩:=uE i;have t:cR b<32:=jE (qc i) (fJ.2 aa);have o:aY c=((2^(32*c):X):Z):=(by unfold aY;rw[apt];simp);have k:(0+aY c*((b:Z)+4294967296*(e:Z))).toNat=(b+4294967296*e)*2^(32*c):=(by rw[o,amC,j6 (b+4294967296*e)];have:((2^(32*c):X):Z)*((b:Z)+4294967296*(e:Z))=((2^(32*c)*(b+4294967296*e):X):Z):=(by rw[qj];simp);rw[this];rfl);show cR (0+aY c*((b:Z)+4294967296*(e:Z))).toNat=32*c+cR b;rw[k,G4 aa,anr];congr 1;obtain⟨f,n⟩:∃f,32=cR b+(f+1):=⟨31-cR b,aa⟩;refine zh (a:=j+2^f*e) ?_;have l:(4294967296:X)=2^cR b*(2^f*2):=by
  have:(4294967296:X)=2^32:=rfl;rw[this]
  conv=>lhs;rw[n]
  rw[hy,nX]
 rw[l]
 conv=>lhs;lhs;rw[m]
 grind
def Uh {z:Z} (o:Fit z) (r:z≠0):Ao (aN z,())=Y ((cR z.natAbs:Z),()):=by
 unfold Ao;dsimp only;have i:=m2 z;have u:=h5 z;have s:(aN z).2.1.length<=31250:=o;generalize(aN z).2.1=b at*;have m:z.natAbs=(ag b).toNat:=aa;rw[m];refine bO.1 (ae.aO (P:=λh=>match h with|.inl _=>b4|.inr p=>p=((cR (ag b).toNat:Z),())) ?_ ?_)
 ·refine ae.steps b.length (λa q=>q=((a:Z),())/\ag (b.take a)=0) ⟨bn,bn⟩ ?_ ?_
  ·rintro a _ f ⟨rfl,e⟩;have j:=i.get f;simp only[aH (show(a:Z)<ao b by simp only[bb];omega),bF,eT f,aI,fQ];by_cases c:b[a]=0
   ·simp only[aH c,iG,bP];refine bv.2 ⟨by rw[bg aa],?_⟩;rw[iS f,c,e];simp
   simp only[aD c,oA,bF];have k:=Ug (x:=0) e f i c;rw[k];obtain⟨d,l⟩:=gh j.1;rw[l] at j c|-;have t:cR d<32:=jE (qc aa) (fJ.2 aa);refine ae.of_eq (ai (Uf (n:=d) aa aa) rfl) ?_;show(ay (ay ((a:Z)*32)+(cR d:Z)),())=_;rw[cG (x:=(a:Z)*32) aa aa,cG aa aa];congr 1;show _=((32*a+cR d:X):Z);omega
  rintro _ ⟨rfl,e⟩;exfalso;rw[fU (bc _)] at e;omega
 rintro(h|h) g
 ·exact g.elim
 have g:h=_:=g;rw[g];exact bv.2 bn
theorem yS (a:X):((2^a:X):Z)=(2:Z)^a:=by simp
theorem kj (a:X):(0:Z)<2^a:=lm ab
theorem wz (b:a<=31):(2:Z)^a<=2147483648:=by have c:=rJ (ab:0<2) b;grind
def wy {p:X} (a:p<=32):(4294967296:Z)=2^p*2^(32-p):=by rw[<-mf,(aa:p+(32-p)=32)];rfl
theorem rx (a:X):aY a=2^(32*a):=by unfold aY;rw[Int.pow_mul];rfl
theorem adW {k:X} {x y:Z} (j:k<=32) (e:0<=x) (f:x<2^k) (g:0<=y) (o:y<4294967296) (i:y %2^k=0):gK .u32 x y=x+y/\x+y<4294967296:=by
 have c:=kj k;have u:=wy j;have t:=kj (32-k);have s:y=2^k*(y/2^k):=(by have:=me y (2^k);omega);have r:y/2^k<2^(32-k):=by
  rcases iy (y/2^k) (2^(32-k)) with b|b
  ·exact b
  have:=jO b (fw c);omega
 have q:2^k*(y/2^k+1)<=2^k*2^(32-k):=jO aa (fw c);have p:(2:Z)^k*(y/2^k+1)=2^k*(y/2^k)+2^k:=(by grind);have n:x+y<4294967296:=aa;refine⟨?_,n⟩;obtain⟨d,rfl⟩:=gh e;obtain⟨a,rfl⟩:=gh g;have m:d<2^k:=(by have:((d:X):Z)<((2^k:X):Z):=(by simpa using f);omega);have l:a %2^k=0:=(by have:((a %2^k:X):Z)=0:=(by simpa using i);omega);rw[adU aa aa];have h:a=(a/2^k)*2^k:=(by have:=uX a (2^k);rw[l,j6] at this;omega);rw[h,M6 k m];simp
theorem Ma {n:X} (F:aT d) (am:d.length<=10000000) (V:n<=100000000):xP (d,(n:Z),())=Y (eX (ag d*2^n).toNat,()):=by
 unfold xP;simp only[ua,c7];split
 ·rename_i h;subst h;simp[ag];rfl
 refine bO.1 ?_;obtain⟨a,e,K,ad,I,J⟩:∃a e:X,n=32*a+e/\e<32/\kM bK (n:Z) 32=some (a:Z)/\jy (n:Z) 32=some (e:Z):=by
  refine⟨n/32,n %32,aa,aa,?_,?_⟩
  ·unfold kM;rw[au ab,Hk aa,cu aa aa];simp
  unfold jy;rw[au ab,Hl aa];simp
 have l:=kj e;have E:=wy (p:=e) aa;have w:aQ (ay ((a:Z)+ao d))=((a+d.length+1:X):Z):=(by simp only[bb];rw[cG aa aa,(ac:(a:Z)+(d.length:Z)=((a+d.length:X):Z)),bg aa]);rw[I,J,aI,aI,w,im aa,aI];refine ae.aO (P:=λq=>∃c,q=(c,())/\c.length=a+d.length+1/\aT c/\ag c=aY a*(2^e*ag d)) ?_ ?_
 ·refine ae.steps d.length (λb M=>∃c,M=((b:Z),c,())/\c.length=a+d.length+1/\aT c/\jg c (a+b+1)/\(∀h:a+b<c.length,c[a+b]<2^e)/\ag c=aY a*(2^e*ag (d.take b))) ⟨_,bn,ac,alS _,jg.mb _ _,λh=>by simp;exact l,by simp[ag,qd]⟩ ?_ ?_
  ·rintro b _ m ⟨c,rfl,ax,g,i,t,o⟩;have s:=F.get m;have G:=g.get (n:=a+b) aa;have H:=t aa;dsimp only;rw[ca (show(b:Z)<ao d by simp only[bb];omega),eT m,bN];have al:ay ((a:Z)+(b:Z))=((a+b:X):Z):=(by rw[cG aa aa];simp);have U:d[b]*2^e<4294967296*2^e:=aoq s.2 l;have T:(2:Z)^e<=2147483648:=wz aa;obtain⟨f,r,N,O⟩:∃f,f=d[b]*2^e/\0<=f/\f<18446744073709551616:=⟨_,bn,am7 s.1 (alq l),aa⟩;have z:it bD (aL d[b]) (aL (e:Z))=Y f:=by
    rw[fL (x:=d[b]) aa aa,fL (x:=(e:Z)) aa aa,p8 aa aa,fP,<-r];congr 1;omega
   have A:f %4294967296 %2^e=0:=(by rw[aqs _ ⟨_,E⟩,r,aor]);have B:f/4294967296<2^e:=(by refine sQ ab ?_;rw[jA];omega);obtain⟨C,R⟩:=adW (k:=e) (x:=c[a+b]) (y:=f %4294967296) aa G.1 H aa aa A;rw[z];simp only[aI];rw[al,iE aa,sk N O,C,lI aa,nN,aI,bg aa,lH aa aa,lI (by simp;omega)];refine bv.2 ⟨(c.set (a+b) (c[a+b]+f %4294967296)).set (a+b+1) (f/4294967296),by rw[bg aa],by simp[ax],(g.set aa aa).set aa aa,?_,?_,?_⟩
   ·have:=(i.LH (c[a+b]+f %4294967296) (j:=a+b) aa).set (f/4294967296);exact this
   ·intro h;show((c.set (a+b) (c[a+b]+f %4294967296)).set (a+b+1) (f/4294967296))[a+b+1]'h<2^e
    rw[aqt];exact B
   have Q:(c.set (a+b) (c[a+b]+f %4294967296))[a+b+1]'(by simp;omega)=0:=by rw[zD aa];exact i _ aa aa
   rw[nk (by simp;omega),Q,nk aa,o,iS m,h9,uL];have S:=me f 4294967296;generalize f/4294967296=L at*;generalize f %4294967296=q at*;generalize(2:Z)^e=u at*;generalize d[b]=v at*;generalize c[a+b]=an at*;have D:q=v*u-4294967296*L:=aa;subst D;grind
  rintro _ ⟨c,rfl,ax,g,i,t,o⟩;dsimp only;rw[b8 (show¬((d.length:Z)<ao d) by simp only[bb];omega)];refine bv.2 ⟨c,bn,ax,g,?_⟩;rw[o,ch (cf _)]
 rintro _ ⟨c,rfl,ax,g,i⟩;refine ae.of_eq (ai (pi g (by show c.length<=_;omega)) rfl) ?_;show(iR c,())=_;rw[iR,i,rx,K,mf];congr 3;grind
def W0 (k:aT d) (o:d.length<=10000000):AA (d,(),())=Y (br (ag d≠0),()):=by
 unfold AA;refine bO.1 ?_;refine ae.aO (P:=λi=>∃g,i=(g,())/\(0<=g↔ag d≠0)) ?_ ?_
 ·unfold IH;dsimp only;refine ae.aO (P:=λc=>match c with|.inl _=>ag d=0|.inr i=>0<=i.1/\ag d≠0) ?_ ?_
  ·refine ae.steps d.length (λa m=>m=((a:Z),())/\ag (d.take a)=0) ⟨bn,bn⟩ ?_ ?_
   ·rintro a _ e ⟨rfl,b⟩;have l:=k.get e;simp only[aH (show(a:Z)<ao d by simp only[bb];omega),bF,eT e,aI,Iu,fQ];by_cases h:d[a]=0
    ·simp only[aH h,iG,bP];refine bv.2 ⟨by rw[bg aa],?_⟩;rw[iS e,h,b];simp
    simp only[aD h,oA,bF];refine bv.2 ⟨by show(0:Z)<=(a:Z);omega,?_⟩;rw[pj d a aa,b,nj e];have j:=fe (k.drop (a+1));have n:0<aY a*(d[a]+4294967296*ag (d.drop (a+1))):=qi (fZ a) aa;omega
   rintro _ ⟨rfl,b⟩;simp only[aD (show¬((d.length:Z)<ao d) by simp only[bb];omega),bP];refine bv.2 ?_;rw[fU (bc _)] at b;exact b
  rintro(c|c) f
  ·have f:ag d=0:=f;exact bv.2 ⟨_,bn,by rw[f];simp⟩
  obtain⟨b,j⟩:0<=c.1/\ag d≠0:=f;exact bv.2 ⟨c.1,bn,λ_=>j,λ_=>b⟩
 rintro _ ⟨g,rfl,l⟩;refine bv.2 ?_;show(br (g>=0),())=_;congr 1;rw[cB];exact l
def M5 (a:X) (c:0<=b) (g:b<4294967296) (e:a<=32):e0 .u32 b (2^a-1)=b %2^a:=by obtain⟨i,rfl⟩:=gh c;have f:0<2^a:=iV a;have d:(2:Z)^a-1=((2^a-1:X):Z):=(by rw[Int.natCast_sub f];simp);have h:2^a<=2^32:=rJ ab e;rw[d,M3 aa aa,apo];simp
def Qq {x b y:Z} {P P':Z} (e:0<b) (f:0<=x/\x<b) (h:0<P):(x+b*y) %(b*P)=0↔x=0/\y %P=0:=by
 constructor
 ·intro a;have g:x=0:=by
   have c:(x+b*y) %b=0:=(by have:=aqs (x+b*y) (show b∣b*P from⟨P,bn⟩);rw[a] at this;simpa using this.symm);rw[zy,sR f.1 f.2] at c;exact c
  subst g;rw[amC,aqu _ _ e] at a;exact⟨bn,by rcases zz.1 a with d|d;omega;exact d⟩
 rintro⟨rfl,a⟩;rw[amC,aqu _ _ e,a,am8]
theorem OB {n:X} (i:aT d) (bx:fc d) (dg:d.length<=10000000) (cv:n<=1000000000):Aq (d,(n:Z),())=Y (eX (ag d/2^n).toNat,br (ag d %2^n≠0),()):=by
 unfold Aq;dsimp only;refine bO.1 ?_;obtain⟨a,e,a4,c1,av,a3⟩:∃a e:X,n=32*a+e/\e<32/\kM bK (n:Z) 32=some (a:Z)/\jy (n:Z) 32=some (e:Z):=by
  refine⟨n/32,n %32,aa,aa,?_,?_⟩
  ·unfold kM;rw[au ab,Hk aa,cu aa aa];simp
  unfold jy;rw[au ab,Hl aa];simp
 have B:=kj e;have G:=wy (p:=e) aa;have ad:(2:Z)^n=aY a*2^e:=(by rw[rx,a4,mf]);have K:=fe i;rw[av,a3,aI,aI,c7,ad];refine ae.ite (λk=>?_) λk=>?_
 ·have k:d.length<=a:=(by simp only[bb] at k;omega);have m:=hm i;have r:=p2 k;have F:aY a*1<=aY a*2^e:=jO aa (fw (fZ a));rw[qg K aa,sR K aa];refine bv.2 ?_;show(([]:ala),br (ao d>0),())=(eX 0,_,());rw[I6];congr 2;rw[cB];simp only[bb];constructor
  ·intro o C;have:=aon i bx C;rw[this] at o;simp at o
  intro o;have:d≠[]:=λO=>(by rw[O] at o;exact o bn);have:=sV.2 this;omega
 have k:a<d.length:=(by simp only[bb] at k;omega);have w:=i.get k;obtain⟨f,u⟩:∃f,f=ag (d.drop a):=⟨_,bn⟩;have H:0<=f:=(by rw[u];exact fe (i.drop a));have J:ag d=ag (d.take a)+aY a*f:=(by rw[u];exact pj d a aa);have I:=fe (i.take a);have E:=hm (i.take a);rw[gu,hR aa] at E;have an:ag d/(aY a*2^e)=f/2^e:=(by rw[<-uO (fw (fZ a)),J,w5 _ _ (by have:=fZ a;omega),qg I E,amC]);refine ae.aO (P:=λq=>q=(br (ag d %(aY a*2^e)≠0),())) ?_ ?_
 ·rw[GO aa,aI];have al:apu 0 (List.take a d)=d.take a:=np;show ae ((AA (apu 0 (List.take a d),(),())).bind _) _;rw[al,W0 (i.take a) (by simp;omega),aI];have D:(br (ag d %(aY a*2^e)≠0))=(br (ag (d.take a)≠0)||br (d[a] %2^e≠0)):=by
   have m:=Qq (x:=ag (d.take a)) (b:=aY a) (y:=f) (P:=2^e) (P':=0) (fZ a) ⟨I,E⟩ B;rw[<-J] at m;have r:f %2^e=d[a] %2^e:=(by rw[u,nj k,G,jb,zy]);rw[r] at m;by_cases A:ag (d.take a)=0<;>by_cases T:d[a] %2^e=0<;>simp[A,T,m]
  rw[D];dsimp only;by_cases A:ag (d.take a)=0
  ·simp only[aD (show¬(ag (d.take a)≠0) fromλk=>k A),alJ,bF,eT k,aI];rw[fL (x:=(e:Z)) aa aa,Ty aa aa,aI,fP,am9];have ce:(2:Z)^e<=2147483648:=wz aa;rw[sR aa aa,lH aa aa,M5 e w.1 w.2 aa,fQ];refine bv.2 ?_;simp
  simp only[aH (show ag (d.take a)≠0 from A)];exact bv.2 bn
 rintro _ rfl;dsimp only;obtain⟨l,cs⟩:∃l,d.length=a+l:=⟨d.length-a,aa⟩;have Q:ay (ao d-(a:Z))=((l:X):Z):=(by simp only[bb];rw[cG aa aa];omega);rw[Q,im aa,bN];have ci:f<aY l:=(by have:=hm (i.drop a);rw[apa,(aa:d.length-a=l),<-u] at this;exact this);refine ae.aO (P:=λq=>∃g,q=(g,())/\g.length=l/\aT g/\ag g=f/2^e) ?_ ?_
 ·refine ae.steps l (λc bs=>∃g,bs=((c:Z),g,())/\g.length=l/\aT g/\ag (g.take c)+aY c*(f/2^e/aY c)=f/2^e) ⟨_,bn,ac,alS _,by simp[ag,zq]⟩ ?_ ?_
  ·rintro c _ co ⟨g,rfl,ax,z,s⟩;have w:=i.get (n:=a+c) aa;have bl:=i.getD (a+c+1);have D:br ((c:Z)<ao (bJ l (0:Z)))=bp:=aH (by simp only[bb,sW];omega);have al:ay ((a:Z)+(c:Z))=((a+c:X):Z):=(by rw[cG aa aa];simp);have R:aQ ((a+c:X):Z)=((a+c+1:X):Z):=bg aa;simp only[D,bF,al,R,eT (aa:a+c<d.length),aI];obtain⟨j,v,L,ds⟩:∃j,j=d[a+c]+4294967296*d.getD (a+c+1) 0/\0<=j/\j<18446744073709551616:=⟨_,bn,aa,aa⟩;have am:f/aY c=j+4294967296*(4294967296*ag (d.drop (a+c+2))):=by
    have m:d.drop a=(d.drop a).take c++d.drop (a+c):=by
     conv=>lhs;rw[<-j5 c (d.drop a)]
     rw[rA]
    have r:f=ag ((d.drop a).take c)+aY c*ag (d.drop (a+c)):=by
     rw[u]
     conv=>lhs;rw[m]
     rw[mK,gu,nT,hR aa]
    have F:=fe ((i.drop a).take c);have o:=hm ((i.drop a).take c);rw[gu,nT,hR aa] at o;have C:ag (d.drop (a+c))=d[a+c]+4294967296*ag (d.drop (a+c+1)):=nj aa;have U:ag (d.drop (a+c+1))=d.getD (a+c+1) 0+4294967296*ag (d.drop (a+c+2)):=by
     rcases cU (a+c+1) d.length with h|h
     ·rw[kr h];exact nj h
     rw[pQ h,qn h,qn aa];rfl
    rw[r,w5 _ _ (by have:=fZ c;omega),qg F o,C,U,v];grind
   have ap:f/2^e/aY c %4294967296=j/2^e %4294967296:=(by have m:f/2^e/aY c=f/aY c/2^e:=(by rw[uO (fw B),uO (fw (fZ c)),jA]);rw[m,am];have r:∀t:Z,j+4294967296*(4294967296*t)=j+2^e*(4294967296*(2^(32-e)*t)):=λt=>(by generalize(2:Z)^e=M at*;generalize(2:Z)^(32-e)=N at*;rw[show(4294967296:Z)*(4294967296*t)=(M*N)*(4294967296*t) by rw[<-G]];grind);rw[r,w5 _ _ aa,zy]);have a0:0<=j/2^e:=mT L (fw B);have c2:j/2^e<=j:=uP _ L;refine ae.aO (P:=λq=>q=(g.set c (j/2^e %4294967296),())) ?_ ?_
   ·refine ae.aO (P:=λq=>q=(j,g,())) ?_ ?_
    ·simp only[c7];refine ae.ite (λh=>?_) λh=>?_
     ·have h:a+c+1<d.length:=(by simp only[bb] at h;omega);rw[eT h,aI,fL (x:=d[a+c+1]) (by have:=i.get h;omega) (by have:=i.get h;omega),p8 ab ab];rw[kr h] at v bl;have S:d[a+c+1]*2^(32:Z).toNat %18446744073709551616=4294967296*d[a+c+1]:=by
       rw[show(2:Z)^(32:Z).toNat=4294967296 from rfl];omega
      rw[aI,S,fL aa aa,nJ 32 w.1 w.2 aa aa aa aa];refine bv.2 ?_;rw[<-v]
     have h:d.length<=a+c+1:=(by simp only[bb] at h;omega);rw[pQ h] at v;rw[fL aa aa];refine bv.2 ?_;rw[v];simp
    rintro _ rfl;dsimp only;rw[fL (x:=(e:Z)) aa aa,zb aa aa,bN,alL,sk a0 aa,lI aa];exact bv.2 bn
   rintro _ rfl;dsimp only;refine bv.2 ⟨g.set c (j/2^e %4294967296),by rw[bg aa],by simp[ax],z.set aa aa,?_⟩;rw[iS (by simp;omega)];simp only[aqt];rw[List.take_set_of_le aa,<-ap,h9,alM 4294967296 (aY c),<-aqv (alq (fZ c))];have V:=amB (f/2^e/aY c) 4294967296;generalize f/2^e/aY c %4294967296=q at*;generalize f/2^e/aY c/4294967296=dl at*;rw[<-V] at s;grind
  rintro _ ⟨g,rfl,ax,z,s⟩;simp only[aD (show¬((l:Z)<ao (bJ l (0:Z))) by simp only[bb,sW];omega),bP];refine bv.2 ⟨g,bn,ax,z,?_⟩;have m:0<=f/2^e:=mT H (fw B);have r:f/2^e<=f:=uP _ H;rw[qg m aa,fU aa] at s;simpa using s
 rintro _ ⟨g,rfl,ax,z,s⟩;refine ae.of_eq (ai (pi z (by show g.length<=_;omega)) rfl) ?_;show(iR g,_,())=_;rw[iR,s,an]
section
theorem BP (a:cr) (b c:Z):gK a b c=gK a c b:=by grind [BitVec.or_comm,gK]
theorem G1 {x y:Z} (b:0<=x/\x<4294967296) (a:0<=y/\y<4294967296):it .u64 x 32=Y (4294967296*x)/\gK .u64 (4294967296*x) (aL y)=4294967296*x+y:=by
 constructor
 ·grind [p8]
 rw[fL a.1 aa,BP,nJ 32 a.1 a.2 aa aa aa aa,aoo]
theorem Gq {x y:Z} (a:0<=x/\x<18446744073709551616) (c:0<y):kM .u64 x y=Y (x/y)/\jy x y=Y (x %y):=by
 constructor
 ·unfold kM;rw[au aa,Hk a.1];have b:x/y<=x:=uP _ a.1;grind [Cm,al9]
 unfold jy;grind
theorem agc (l:aT d) (J:d.length<=10000000) (g:0<b) (F:b<4294967296):DC (d,b,())=Y (eX (ag d/b).toNat,ag d %b,()):=by
 unfold DC;refine bO.1 ?_;simp only[bb,im (aa:d.length<=4294967296),aI];refine ae.aO (P:=λt=>∃c,t=(ag d %b,c,())/\c.length=d.length/\aT c/\ag c=ag d/b) ?_ ?_
 ·refine ae.steps d.length (λf u=>∃c,u=(ag (d.drop (d.length-f)) %b,((d.length:X):Z)-1-f,c,())/\c.length=d.length/\aT c/\(∀a,a<d.length-f->(q:a<c.length)->c[a]=0)/\ag c=aY (d.length-f)*(ag (d.drop (d.length-f))/b)) ⟨bJ d.length 0,?_,ac,alS _,ac,?_⟩ ?_ ?_
  ·rw[cG aa aa,qn aa];simp[ag]
  ·simp_all [qd,qn,ag]
  ·rintro f _ G ⟨c,rfl,ax,h,i,j⟩;obtain⟨a,q⟩:∃a,d.length=a+1+f:=⟨d.length-1-f,aa⟩;have al:((d.length:X):Z)-1-(f:Z)=(a:Z):=aa;have p:a<d.length:=aa;rw[(aa:d.length-f=a+1)] at*;have s:=l.get p;obtain⟨e,k⟩:∃e,e=ag (d.drop (a+1)):=⟨_,bn⟩;have D:0<=e:=(by rw[k];exact fe (l.drop _));rw[<-k] at j|-;have r:0<=e %b:=oE _ aa;have H:e %b<b:=qh _ g;obtain⟨v,w⟩:=G1 (x:=e %b) (y:=d[a]) ⟨r,aa⟩ s;obtain⟨z,A⟩:=Gq (x:=4294967296*(e %b)+d[a]) (y:=b) ⟨aa,aa⟩ g;have n:(4294967296*(e %b)+d[a])/b<4294967296:=by
    refine sQ g ?_;omega
   have o:0<=(4294967296*(e %b)+d[a])/b:=mT aa aa;simp only[al,aH (aa:(a:Z)>=0),bF,eT p,v,aI];rw[w,fL (x:=b) aa aa,z,aI,lH o n,lI aa,A,aI];have E:=me e b;have I:ag (d.drop a)=d[a]+4294967296*e:=(by grind [nj]);have m:ag (d.drop a)=(4294967296*(e %b)+d[a])+b*(4294967296*(e/b)):=(by grind);refine bv.2 ⟨c.set a ((4294967296*(e %b)+d[a])/b),?_,by grind,h.set o n,?_,?_⟩
   ·rw[(aa:d.length-(f+1)=a),cG aa aa,m,zy];grind
   ·grind
   rw[(aa:d.length-(f+1)=a),m,w5 _ _ aa,nk aa,i a aa aa,j,h9];grind
  rintro _ ⟨c,rfl,ax,h,i,j⟩;have al:¬(((d.length:X):Z)-1-(d.length:Z)>=0):=aa;simp_all [zq,bv,amm,aD,bP]
 rintro _ ⟨c,rfl,ax,h,i⟩;have C:ag d %b<b:=qh _ g;have B:0<=ag d %b:=oE _ aa;refine ae.of_eq (ai (pi h (by grind)) rfl) ?_;show(iR c,eD (ag d %b),())=_;grind [lH,iR]
section
variable {α B:Type}
theorem rS {c b e:bm α} (f:a<b.length) (d:α->bu B):a5 (c++(b++e)) (c.length+a) d=d b[a]:=by simp_all [rD,sX,qp,cE,hb]
def B9 {b c d:bm α} (f:a<c.length) (e:α):(b++(c++d)).set (b.length+a) e=b++(c.set a e++d):=by rw[aqw _ _ aa,sX,List.set_append_left _ _ f]
end
theorem XO {v1 fb d f a c g:Z} (r:0<e) (q:d=(v1*4294967296+fb)*e+u) (o:f=(a*4294967296+c)*e+g) (j:0<=u) (p:g<e) (h:0<=b) (k:(a-b*v1)*4294967296+c<b*fb):f<b*d:=by have i:a*4294967296+c+1<=b*(v1*4294967296+fb):=(by grind);have l:(a*4294967296+c+1)*e<=b*(v1*4294967296+fb)*e:=nQ i aa;have m:0<=b*u:=lO h j;have n:b*d=b*(v1*4294967296+fb)*e+b*u:=(by grind);grind
theorem XP {v1 fb a f c d g:Z} (t:0<e) (r:a=(v1*4294967296+fb)*e+u) (p:f=(c*4294967296+d)*e+g) (s:0<=u/\u<e) (q:0<=g) (h:0<=b/\b<4294967296) (v:1<=v1) (w:0<=fb) (j:b*fb<=(c-b*v1)*4294967296+d):b*a<f+a:=by have i:b*(v1*4294967296+fb)<=c*4294967296+d:=(by grind);have k:b*(v1*4294967296+fb)*e<=(c*4294967296+d)*e:=nQ i aa;have l:b*u<=b*e:=jO aa h.1;have m:b*a=b*(v1*4294967296+fb)*e+b*u:=(by grind);have n:b*e<=4294967295*e:=nQ aa aa;have o:4294967296*e<=(v1*4294967296+fb)*e:=nQ aa aa;omega
end
theorem Ha (b:d.length=a+2):ag d=(d[a+1]*4294967296+d[a])*aY a+ag (d.take a):=by grind [iS,h9,ch]
theorem ahn (b:d.length=a+3):ag d=((d[a+2]*4294967296+d[a+1])*4294967296+d[a])*aY a+ag (d.take a):=by grind [h9,iS,ch]
structure zt (v w:ala) (n:X):Prop where
 hv:aT v
 hw:aT w
 Hc:v.length=n+2
 wn:w.length=n+3
 Q1:n<=10000000
 top:2147483648<=v[n+1]
 lt:ag w<4294967296*ag v
theorem zt.Uq {n:X} (a:zt d f n):0<ag d:=by
 have b:=Ha a.Hc;have c:=fe (a.hv.take n);have e:=a.hv.get (n:=n) (by grind);have g:=a.top;have h:0<(d[n+1]'(by grind)*4294967296+d[n]'(by grind))*aY n:=qi aa (fZ n)
 omega
theorem XQ {j:ala} {n:X} (h:zt f d n) (r:b=(4294967296*d[n+2]'(by have:=h.wn;omega)+d[n+1]'(by have:=h.wn;omega))/f[n+1]'(by have:=h.Hc;omega)) (ci:e=(4294967296*d[n+2]'(by grind)+d[n+1]'(by grind)) %f[n+1]'(by grind)):ae (loop (σ:=(ej×Z×Z×bi×bt)) (ρ:=(ej×Z×bi×bt)) (λ(l,o,B,t,_)=>
 bB (α:=(ej×bi×bt)⊕((ej×Z×Z×bi×bt)⊕(ej×Z×bi×bt))) (bif br (o>4294967295)==bq then(aw f (ay (ao f-2))).bind λd1=>
 (it bD B 32).bind λd2=>
 (be (l.2-l.1) (ay (ao f-2))).bind λdg=>
 (a5 t (l.1+dg) λam=>Y am).bind λd3=>
  bif br (aL (o*aL d1)>gK bD d2 (aL d3)) then
 Y (.inl (l,t,())) else
 Y (.inr (.inr (l,o,t,()))) else Y (.inl (l,t,()))) λa=>match a with
 |.inl (O,P,_)=>(
 (aw f (ay (ao f-1))).bind λp=>
  bif br (aL (B+aL p)>4294967295) then
 Y (.inr (O,aL (o-1),P,())) else
 Y (.inl (O,aL (o-1),aL (B+aL p),P,())))
 |.inr i=>Y i) ((g.length,g.length+d.length),b,e,g++(d++j),())) (λi=>∃a,i=((g.length,g.length+d.length),a,g++(d++j),())/\0<=a/\a<4294967296/\ag d/ag f<=a/\a*ag f<ag d+ag f):=by
 have c1:=h.Hc;have c2:=h.wn;have fl:=h.Q1;have bl:=h.Uq;have f4:=h.hv.get (n:=n+1) aa;have s:=h.hv.get (n:=n) aa;have ft:=h.hw.get (n:=n+2) aa;have fz:=h.hw.get (n:=n+1) aa;have cv:=h.hw.get (n:=n) aa;have fs:=h.top;have K:=Ha c1;have w:=ahn c2;have E:=fe (h.hv.take n);have F:=hm (h.hv.take n);have R:=fe (h.hw.take n);have G:=hm (h.hw.take n);rw[gu,hR aa] at F G;have bx:=h.lt;have z:=fZ n;have al:ay (ao f-1)=((n+1:X):Z):=(by grind [cG,bb]);have ad:ay (ao f-2)=((n:X):Z):=(by grind [cG,bb]);have ap:aw f ((n+1:X):Z)=Y f[n+1]:=eT aa;have av:aw f ((n:X):Z)=Y f[n]:=eT aa;have a0:∀q:Z->eA,a5 (g++(d++j)) (g.length+n) q=q d[n]:=λq=>rS aa q;generalize fT:f[n+1]=v1 at*;generalize f0:f[n]=fb at*;generalize f1:d[n+2]=D at*;generalize f2:d[n+1]=d0 at*;generalize f3:d[n]=k at*;obtain⟨c,co⟩:∃c,c=4294967296*D+d0:=⟨_,bn⟩;rw[<-co] at r ci;have w:ag d=(c*4294967296+k)*aY n+ag (d.take n):=(by grind);have en:D<=v1:=by
  rcases iy v1 D with m|m
  ·exfalso;have S:(v1*4294967296+fb+1)*aY n<=(v1*4294967296+4294967296)*aY n:=nQ aa aa;have H:((v1+1)*4294967296*4294967296)*aY n<=(c*4294967296+k)*aY n:=nQ aa aa;grind
  omega
 have ek:0<=ag d/ag f:=mT (fe h.hw) aa;have el:ag d/ag f<4294967296:=sQ bl bx;have cs:0<=c:=aa;have em:=me c v1;have fp:0<=c %v1:=oE _ aa;have fr:c %v1<v1:=qh _ aa;have fn:0<=c/v1:=mT cs aa;have T:∀a,0<=a->(c-a*v1)*4294967296+k<a*fb->ag d/ag f<a:=λa r h=>(by have:=XO z K w E G r h;simp_all [sQ]);have an:∀a,0<=a->a<4294967296->a*fb<=(c-a*v1)*4294967296+k->a*ag f<ag d+ag f:=λa a3 a4 h=>XP z K w ⟨E,F⟩ R ⟨a3,a4⟩ aa s.1 h;refine alv (λC=>∃a i,C=((g.length,g.length+d.length),a,i,g++(d++j),())/\0<=a/\a<=4294967297/\0<=i/\i<4294967296/\i=c-a*v1/\ag d/ag f<=a) (λC=>C.2.1.toNat) ⟨b,e,bn,aa,?_,aa,aa,?_,?_⟩ ?_
 ·rw[r];have:c<4294967298*v1:=aa;have:=sQ aa this;omega
 ·grind
 ·rcases iy (c/v1) (ag d/ag f) with m|m
  ·exfalso;have S:(c/v1+1)*ag f<=ag d:=by
    have v:(c/v1+1)*ag f<=ag d/ag f*ag f:=nQ aa aa;have U:=me (ag d) (ag f);have I:=oE (ag d) (aa:ag f≠0);grind
   have H:(c+1)*4294967296<=(c/v1+1)*(v1*4294967296):=(by grind);have d4:(c+1)*4294967296*aY n<=(c/v1+1)*(v1*4294967296)*aY n:=nQ H aa;have d5:0<=(c/v1+1)*(fb*aY n+ag (f.take n)):=lO aa (by have:=lO s.1 (fw z);omega);have d6:(c/v1+1)*ag f=(c/v1+1)*(v1*4294967296)*aY n+(c/v1+1)*(fb*aY n+ag (f.take n)):=(by grind);have d7:(k+1)*aY n<=4294967296*aY n:=nQ aa aa;grind
  omega
 rintro _ ⟨a,i,rfl,v,U,I,V,d8,d9⟩;have ce:∀a,(a-1)*v1=a*v1-v1:=λa=>(by grind);have J:ag d/ag f<a->ae ((aw f (ay (ao f-1))).bind λp=>
  bif br (aL (i+aL p)>4294967295) then
 Y (.inr ((g.length,g.length+d.length),aL (a-1),g++(d++j),())) else
 Y (
  .inl ((g.length,g.length+d.length),aL (a-1),aL (i+aL p),g++(d++j),()))) (λ(Q:(ej×Z×Z×bi×bt)⊕(ej×Z×bi×bt))=>match Q with
  |.inl N=>(∃a i,N=((g.length,g.length+d.length),a,i,g++(d++j),())/\0<=a/\a<=4294967297/\0<=i/\i<4294967296/\i=c-a*v1/\ag d/ag f<=a)/\N.2.1.toNat<a.toNat
  |.inr i=>∃a,i=((g.length,g.length+d.length),a,g++(d++j),())/\0<=a/\a<4294967296/\ag d/ag f<=a/\a*ag f<ag d+ag f):=by
  intro eq;rw[al,ap,aI,fL (x:=v1) aa aa,fL (x:=i+v1) aa aa,fL (x:=a-1) aa aa,c7];refine ae.ite (λm=>?_) λm=>?_
  ·refine bv.2 ⟨a-1,bn,aa,?_,aa,?_⟩
   ·grind
   have bs:a-1<4294967296:=(by grind);refine an (a-1) aa bs ?_;rw[ce];have f5:(a-1)*fb<=4294967295*fb:=nQ aa s.1;omega
  refine bv.2 ⟨⟨a-1,i+v1,bn,aa,aa,aa,aa,?_,aa⟩,?_⟩
  ·grind
  show(a-1).toNat<a.toNat;omega
 by_cases L:a>4294967295
 ·simp only[aH L,show(bp==bq)=bq from rfl,bP,aI];refine(J aa).mono ?_;rintro(u|u) A
  ·exact A
  omega
 simp only[aD L,alJ,bF,ad,av,aI];obtain⟨dl,ds⟩:=G1 (x:=i) (y:=k) ⟨I,V⟩ cv;have ex:=BD (x:=a) (y:=fb) ⟨v,aa⟩ s;rw[dl,aI];simp only[sX,e9 (aa:n<d.length),aI,a0,ds];rw[fL (x:=fb) aa aa,fL (x:=a*fb) aa aa];by_cases M:a*fb>4294967296*i+k
 ·simp only[aH M,bF,aI];refine(J (T a v aa)).mono ?_;rintro(u|u) A
  ·exact A
  omega
 simp only[aD M,bP,aI];grind [bv]
theorem agF {r:ala} (L:aT d) (M:aT f) (a4:d.length<f.length) (ap:f.length<=100000000) (K:0<=b/\b<4294967296) (av:∀h e a,a.length=f.length->aT a->(∀(D:d.length<a.length) (m:d.length<f.length),a[d.length]=f[d.length])->0<=h->h<4294967296->0<=e->e<=1->ag a-aY d.length*(h+e)=ag f-b*ag d->v ((g.length,g.length+f.length),h,e,g++(a++r),())):ae (loop (σ:=(ej×Z×Z×Z×bi×bt)) (ρ:=(ej×Z×Z×bi×bt)) (λ(j,p,s,o,q,_)=>
 bif br (o<ao d) then
 (aw d o).bind λu=>
 (eQ bD (aL (aL (b*aL u)+p)) 32).bind λU=>
 (be (j.2-j.1) o).bind λP=>
 (a5 q (j.1+P) λC=>Y C).bind λA=>
 (be (j.2-j.1) o).bind λz=>
 (a5 q (j.1+z) λ_=>Y (q.set (j.1+z) (eD (e0 bD (aL (aL (aL A-e0 bD (aL (aL (b*aL u)+p)) 4294967295)-s)) 4294967295)))).bind λad=>
 (eQ bD (aL (aL (aL A-e0 bD (aL (aL (b*aL u)+p)) 4294967295)-s)) 32).bind λV=>
 Y (.inl (j,U,e0 bD V 1,aQ o,ad,())) else
 Y (.inr (j,p,s,q,()))) ((g.length,g.length+f.length),0,0,0,g++(f++r),())) v:=by
 refine ae.steps d.length (λc T=>∃h e a,T=((g.length,g.length+f.length),h,e,(c:Z),g++(a++r),())/\a.length=f.length/\aT a/\(∀l,c<=l->(D:l<a.length)->(m:l<f.length)->a[l]=f[l])/\0<=h/\h<4294967296/\0<=e/\e<=1/\ag a-aY c*(h+e)=ag f-b*ag (d.take c)) ⟨0,0,f,bn,bn,M,λ_ _ _ _=>rfl,aa,aa,aa,aa,by simp[ag]⟩ ?_ ?_
 ·rintro c _ t ⟨h,e,a,rfl,w,m,y,E,F,G,H,I⟩;have N:=L.get t;have bl:=m.get (n:=c) aa;have a3:=BD K N;obtain⟨k,J,Q,R⟩:∃k,k=b*d[c]+h/\0<=k/\k<18446744073709551616:=⟨_,bn,aa,aa⟩;simp only[aH (show(c:Z)<ao d by grind),bF,eT t,aI];have al:aL (aL (b*aL d[c])+h)=k:=by
   rw[fL (x:=d[c]) aa aa,fL (x:=b*d[c]) aa aa,<-J,fL Q R]
  rw[al];obtain⟨i,a0,am,an⟩:∃i,i=a[c]-k %4294967296-e/\-4294967296<=i/\i<4294967296:=⟨_,bn,aa,aa⟩;have B:aL (aL (aL a[c]-e0 bD k 4294967295)-e)=i %18446744073709551616:=(by simp_all [and_low32,sJ]);have ax:i %18446744073709551616/4294967296 %2^1=-(i/4294967296):=aa;have S:i %18446744073709551616 %4294967296=i %4294967296:=aa;simp only[nN,sX,e9 (aa:c<f.length),aI,rS (aa:c<a.length),B,sk (aa:0<=i %18446744073709551616) aa,B9 (aa:c<a.length)];rw[ta 1 aa aa 1 ab ab,ax,S];refine bv.2 ⟨k/4294967296,-(i/4294967296),a.set c (i %4294967296),by rw[bg aa],by simp[w],m.set aa aa,?_,aa,aa,aa,aa,?_⟩
  ·intro l bs bx O;rw[zD aa];exact y l aa aa O
  rw[nk aa,h9,iS t];grind
 rintro _ ⟨h,e,a,rfl,w,m,y,E,F,G,H,I⟩;simp_all [bv,bc,fU,aD,bb,bP,ao]
theorem VF {m:ala} (C:aT f) (D:aT d) (L:f.length<d.length) (J:d.length<=100000000) (K:∀c a,a.length=d.length->aT a->(∀(v:f.length<a.length) (i:f.length<d.length),a[f.length]=d[f.length])->0<=c->c<=1->ag a+aY f.length*c=ag d+ag f->x ((g.length,g.length+d.length),c,g++(a++m),())):ae (loop (σ:=(ej×Z×Z×bi×bt)) (ρ:=(ej×Z×bi×bt)) (λ(e,o,k,l,_)=>
 bif br (k<ao f) then
 (aw f k).bind λr=>
 (be (e.2-e.1) k).bind λE=>
 (a5 l (e.1+E) λu=>Y u).bind λs=>
 (be (e.2-e.1) k).bind λq=>
 (a5 l (e.1+q) λ_=>Y (l.set (e.1+q) (eD (e0 bD (aL (aL (aL s+aL r)+o)) 4294967295)))).bind λI=>
 (eQ bD (aL (aL (aL s+aL r)+o)) 32).bind λH=>
 Y (.inl (e,H,aQ k,I,())) else
 Y (.inr (e,o,l,()))) ((g.length,g.length+d.length),0,0,g++(d++m),())) x:=by
 refine ae.steps f.length (λb F=>∃c a,F=((g.length,g.length+d.length),c,(b:Z),g++(a++m),())/\a.length=d.length/\aT a/\(∀j,b<=j->(v:j<a.length)->(i:j<d.length)->a[j]=d[j])/\0<=c/\c<=1/\ag a+aY b*c=ag d+ag (f.take b)) ⟨0,d,bn,bn,D,λ_ _ _ _=>rfl,aa,aa,by simp[ag]⟩ ?_ ?_
 ·rintro b _ p ⟨c,a,rfl,w,i,y,z,A,B⟩;have N:=C.get p;have O:=i.get (n:=b) aa;obtain⟨h,M,G,P⟩:∃h,h=a[b]+f[b]+c/\0<=h/\h<8589934592:=⟨_,bn,aa,aa⟩;simp only[aH (show(b:Z)<ao f by grind),bF,eT p,aI];have t:aL (aL (aL a[b]+aL f[b])+c)=h:=by
   grind [fL]
  simp only[nN,sX,e9 (aa:b<d.length),aI,rS (aa:b<a.length),t,sk G (aa:h<18446744073709551616),B9 (aa:b<a.length)];refine bv.2 ⟨h/4294967296,a.set b (h %4294967296),by rw[bg aa],by grind,i.set aa aa,?_,aa,aa,?_⟩
  ·grind
  grind [nk,h9,iS,amB]
 rintro _ ⟨c,a,rfl,w,i,y,z,A,B⟩;simp_all [bv,bc,fU,aD,bb,bP,ao]
theorem Xd {a d g c h f:Z} (j:a+b*d=u+e) (i:u=c-g*e-b*(4294967296*-1)):a+b*(h+d-4294967296*f-h)=c-(g-1)*e+b*(4294967296*(1-f)):=by grind
theorem Xe {d c g a h f:Z} (i:e-b*(d+c)=u-g*a):e+b*(h-d-c-4294967296*f-h)=u-g*a-b*(4294967296*f):=by grind
theorem ae.bs {c:bu m} {b:m->bu t} {a:t->Prop} {y:m} (d:c=Y y) (e:ae (b y) a):ae (c.bind b) a:=by grind
theorem Xf {A C:ala} {n:X} (i:zt d f n):ae (Ap ((A++(f++C),A.length,A.length+f.length),d,())) (λq=>∃b,q=(A++(b++C),ag f/ag d,())/\b.length=f.length/\aT b/\ag b=ag f %ag d):=by
 have H:=i.Hc;have dl:=i.wn;have eq:=i.Q1;have k:=i.Uq;have a4:=fe i.hw;have fl:=i.top;have Q:=i.hv.get (n:=n+1) aa;have O:=i.hw.get (n:=n+2) aa;have c2:=i.hw.get (n:=n+1) aa;have D:ao d=((n+2:X):Z):=(by simp only[bb];omega);have al:ay (((n+2:X):Z)-1)=((n+1:X):Z):=(by rw[cG aa aa];omega);have a0:aw d ((n+1:X):Z)=Y d[n+1]:=eT aa;obtain⟨ds,ap⟩:=G1 (x:=f[n+2]) (y:=f[n+1]) O c2;obtain⟨d0,d1⟩:=Gq (x:=4294967296*f[n+2]+f[n+1]) (y:=d[n+1]) ⟨aa,aa⟩ aa;unfold Ap;have m:be (A.length+f.length-A.length) (ao d)=Y (n+2):=(by rw[sX,D];exact e9 aa);have i1:be (A.length+f.length-A.length) (ay (ao d-1))=Y (n+1):=(by rw[sX,D,al];exact e9 aa);have R:aw d (ay (ao d-1))=Y d[n+1]:=(by rw[D,al];exact a0);refine ae.bs m (ae.bs (rS aa _) (ae.bs (by rw[fL O.1 aa];exact ds) (ae.bs i1 (ae.bs (rS aa _) (ae.bs R (ae.bs (by rw[ap,fL Q.1 aa];exact d0) (ae.bs R (ae.bs (by rw[ap,fL Q.1 aa];exact d1) ?_))))))));refine ae.aO (XQ i bn rfl) ?_;rintro _ ⟨g,rfl,an,ax,fs,ft⟩;refine ae.aO (P:=λq=>∃e j b,q=((A.length,A.length+f.length),e,j,A++(b++C),())/\b.length=f.length/\aT b/\0<=e/\e<4294967296/\0<=j/\j<=1/\(∀(i:d.length<b.length) (L:d.length<f.length),b[d.length]=f[d.length])/\ag b-aY d.length*(e+j)=ag f-g*ag d) (agF i.hv i.hw aa aa ⟨an,ax⟩ λe j b p v T U V ad am w=>⟨e,j,b,bn,p,v,U,V,ad,am,T,w⟩) ?_;rintro _ ⟨e,j,b,rfl,p,v,U,V,ad,am,T,w⟩;have fn:=v.get (n:=n+2) aa;obtain⟨c,bl,d4,d5⟩:∃c,c=b[n+2]-e-j/\-4294967296<=c/\c<4294967296:=⟨_,bn,aa,aa⟩;have K:aL (aL (aL b[n+2]-e)-j)=c %18446744073709551616:=(by rw[sJ,sJ,sJ,bl];omega);have d2:c %18446744073709551616/4294967296 %2^1=-(c/4294967296):=(by rw[show(2:Z)^1=2 from rfl];omega);have d3:c %18446744073709551616 %4294967296=c %4294967296:=aa;refine ae.bs m (ae.bs (rS aa _) (ae.bs m (ae.bs (y:=A++(b.set (n+2) (c %4294967296)++C)) ?_ (ae.bs (y:=c %18446744073709551616/4294967296) ?_ ?_))))
 ·rw[rS aa,K,sk aa aa,B9 aa,d3]
 ·rw[K,nN]
 rw[ta 1 aa aa 1 ab ab,d2];have d9:=fZ (n+2);have cv:ag (b.set (n+2) (c %4294967296))=ag b+aY (n+2)*(c %4294967296-b[n+2]):=nk aa _;have r:aT (b.set (n+2) (c %4294967296)):=v.set aa aa;rw[H] at w;have d6:=me c 4294967296;have s:ag (b.set (n+2) (c %4294967296))=ag f-g*ag d-aY (n+2)*(4294967296*(c/4294967296)):=(by rw[cv];generalize c/4294967296=z at*;generalize c %4294967296=B at*;have:B=b[n+2]-e-j-4294967296*z:=aa;rw[this];exact Xe w);have ci:=hm r;have ek:=fe r;rw[anI,p,dl,(aa:n+3=(n+2)+1),h9] at ci;have M:=me (ag f) (ag d);have em:=oE (ag f) (aa:ag d≠0);have en:=qh (ag f) k;rw[g2,c7];refine ae.ite (λav=>?_) λav=>?_
 ·have F:c/4294967296=0:=aa;rw[F] at s;have l:ag f/ag d=g:=by
   have E:g*ag d<=ag f:=aa;have L:g<=ag f/ag d:=(aos k).2 E;omega
  rw[a7 (by simp;omega),lH an ax];refine bv.2 ⟨_,by rw[l],by simp[p],r,?_⟩;rw[s];rw[l] at M;rw[jA g];omega
 have F:c/4294967296=-1:=aa;rw[F] at s;have l:ag f/ag d=g-1:=(by have E:ag f<g*ag d:=aa;have L:ag f/ag d<g:=sQ k E;have d7:(g-1)*ag d<ag f+1:=(by have:(g-1)*ag d=g*ag d-ag d:=(by grind);omega);have d8:g-1<=ag f/ag d:=(aos k).2 aa;omega);have ex:=mT a4 (fw k);have G:(b.set (n+2) (c %4294967296)).length=f.length:=(by simp[p]);rw[<-G];refine ae.aO (P:=λq=>∃e a,q=((A.length,A.length+(b.set (n+2) (c %4294967296)).length),e,A++(a++C),())/\a.length=f.length/\aT a/\0<=e/\e<=1/\ag a+aY d.length*e=ag (b.set (n+2) (c %4294967296))+ag d) (VF i.hv r aa aa λe a I o fr J S u=>⟨e,a,bn,by rw[I,G],o,J,S,u⟩) ?_;rintro _ ⟨h,a,rfl,I,o,J,S,u⟩;rw[G];have fp:=o.get (n:=n+2) aa;refine ae.bs m (ae.bs (rS aa _) (ae.bs m (ae.bs (y:=A++(a.set (n+2) ((a[n+2]+h) %4294967296)++C)) ?_ ?_)))
 ·rw[rS aa,B9 aa,lH J aa,qe]
 rw[a7 (by simp;omega),fL aa aa,lH aa aa];refine bv.2 ⟨a.set (n+2) ((a[n+2]+h) %4294967296),by rw[l],by simp[I],o.set aa aa,?_⟩;have c1:ag (a.set (n+2) ((a[n+2]+h) %4294967296))=ag a+aY (n+2)*((a[n+2]+h) %4294967296-a[n+2]):=nk aa _;have N:aT (a.set (n+2) ((a[n+2]+h) %4294967296)):=o.set aa aa;have co:=hm N;have el:=fe N;have ce:(a.set (n+2) ((a[n+2]+h) %4294967296)).length=(n+2)+1:=(by rw[anI];omega);rw[ce,h9] at co;have f2:=me (a[n+2]+h) 4294967296;rw[H] at u;have t:ag (a.set (n+2) ((a[n+2]+h) %4294967296))=ag f-(g-1)*ag d+aY (n+2)*(4294967296*(1-(a[n+2]+h)/4294967296)):=(by rw[c1];generalize(a[n+2]+h)/4294967296=z at*;generalize(a[n+2]+h) %4294967296=B at*;have:B=a[n+2]+h-4294967296*z:=aa;rw[this];exact Xd u s);rw[l] at M;have bx:ag f-(g-1)*ag d=ag f %ag d:=(by rw[jA (g-1)];omega);rw[bx] at t;have dg:=hm i.hv;rw[H] at dg;have cs:(a[n+2]+h)/4294967296=1:=by
  rcases iy 0 ((a[n+2]+h)/4294967296) with a3|a3
  ·omega
  exfalso;have:(a[n+2]+h)/4294967296=0:=aa;rw[this] at t;omega
 rw[cs] at t;rw[t];simp
theorem r8 (a:0<=b):ag (eX b.toNat)=b:=by grind [tF]
def aaS {n:X} (f:aT d) (m:fc d) (u:d.length=n+2):∃c:X,c<=31/\vv (d[n+1],())=Y ((c:Z),())/\ag d*2^c<aY (n+2)/\2147483648*aY (n+1)<=ag d*2^c:=by
 have l:=f.get (n:=n+1) aa;have q:d[n+1]≠0:=m _ (by rw[aqp,cE aa];congr 2;omega);have h:ag d=ag (d.take (n+1))+aY (n+1)*d[n+1]:=(by rw[<-iS aa,fU aa]);have r:=fe (f.take (n+1));have j:=hm (f.take (n+1));rw[gu,hR aa] at j;generalize d[n+1]=v at*;obtain⟨a,rfl⟩:=gh l.1;have i:0<a:=aa;have t:aF a<=32:=fJ.2 aa;have s:=pE i;obtain⟨g,o⟩:=oV i;obtain⟨b,k⟩:∃b,aF a=b+1:=⟨aF a-1,aa⟩;refine⟨32-aF a,aa,?_,?_,?_⟩
 ·unfold vv;refine ai (J0 (n:=a) aa) ?_;show Y (ay (32-(aF a:Z)),())=_;rw[cG aa aa];congr 2;omega
 ·have al:ag d<aY (n+1)*2^aF a:=by
   have:aY (n+1)*((a:Z)+1)<=aY (n+1)*2^aF a:=jO (by rw[<-yS];omega) (fw (fZ _));have p:aY (n+1)*((a:Z)+1)=aY (n+1)*(a:Z)+aY (n+1):=(by rw[aqx,Int.mul_one]);show ag d<_;rw[h];show ag (d.take (n+1))+aY (n+1)*(a:Z)<_;omega
  have e:ag d*2^(32-aF a)<aY (n+1)*2^aF a*2^(32-aF a):=sS al (kj _);rw[jb,<-mf,(aa:aF a+(32-aF a)=32)] at e;rw[h9,jA];rw[jA];have:aY (n+1)*2^32=4294967296*aY (n+1):=(by rw[jA];rfl);omega
 have al:aY (n+1)*2^b<=ag d:=(by have:aY (n+1)*2^b<=aY (n+1)*(a:Z):=jO (by rw[<-yS];rw[k] at g;simp only[apv] at g;omega) (fw (fZ _));rw[h];show _<=ag (d.take (n+1))+aY (n+1)*(a:Z);omega);have e:aY (n+1)*2^b*2^(32-aF a)<=ag d*2^(32-aF a):=nQ al (fw (kj _));rw[jb,<-mf,(aa:b+(32-aF a)=31)] at e;have:aY (n+1)*2^31=2147483648*aY (n+1):=(by rw[jA];rfl);omega
def Xh (g:ag d=b) (e:aT d) (l:fc d) (q:b<aY (a+2)) (r:2147483648*aY (a+1)<=b):∃c:d.length=a+2,2147483648<=d[a+1]:=by
 have t:=fZ (a+1);have k:d.length=a+2:=by
  have o:=hm e;have h:d≠[]:=λi=>(by rw[i] at g;simp only[ag] at g;omega);have p:=fc.low e l h;rcases sY d.length (a+2) with c|c|c
  ·have:=p2 (m:=d.length) (n:=a+1) aa;omega
  ·exact c
  have:=p2 (m:=a+2) (n:=d.length-1) aa;omega
 refine⟨k,?_⟩;have s:ag d=ag (d.take (a+1))+aY (a+1)*d[a+1]:=(by rw[<-iS aa,fU aa]);have j:=hm (e.take (a+1));rw[gu,hR aa] at j;rcases iy d[a+1] 2147483648 with f|f
 ·exfalso;have:aY (a+1)*(d[a+1]+1)<=aY (a+1)*2147483648:=jO aa aa;rw[aqx,Int.mul_one] at this;omega
 exact f
theorem Oy {g c h f d a:Z} (k:(f+b*(h+a))+e*c=g) (i:h=e*u+d):(f+b*(d+a))+e*(c+b*(u-0))=g:=by subst i;have al:b*(e*u+d+a)=b*(d+a)+b*(e*u):=(by grind);have j:e*(c+b*(u-0))=e*c+b*(e*u):=(by grind);omega
def Xg {n:X} (z:aT d) (J:ag d=b) (d5:b<aY (n+2)) (L:d.length=n+2) (a3:2147483648<=d[n+1]) (co:n<=10000000) (a4:aT f) (am:ag f=e) (V:f.length=c) (el:c=a+(n+2)) (d4:c<=10000000) (ap:ag (f.drop a)<b) {H:kA->Prop} (ad:∀i h,i.length=a->aT i->h.length=c->aT h->ag h+b*ag i=e->ag h<b->H (i,h,())):ae (loop (σ:=(Z×bi×bi×bt)) (ρ:=kA) (λ(r,P,u,_)=>
 bif br (r>=0) then
 ((hj r).bind λM=>(hj (aQ (ay (r+ao d)))).bind λN=>(hX M N u.length).bind λ_=>(wx u.length).map λ_=>(M,N)).bind λt=>
  bif cb t.1 t.2 then
 (Ap ((u,t.1,t.2),d,())).bind λ(ci,cs,_)=>
 wr P r cs λdl=>
 Y (.inl (ay (r-1),dl,ci,())) else bo else
 Y (.inr (P,u,()))) (ay (ao (bJ a (0:Z))-1),bJ a (0:Z),f,())) H:=by
 have K:0<b:=(by have o:=Ha L;have q:=fe (z.take n);have d0:=z.get (n:=n) aa;have d1:0<(d[n+1]*4294967296+d[n])*aY n:=qi aa (fZ n);omega);refine ae.steps a (λl cv=>∃i h,cv=(((a:X):Z)-1-l,i,h,())/\i.length=a/\aT i/\(∀g,g<a-l->(an:g<i.length)->i[g]=0)/\h.length=c/\aT h/\ag h+b*ag i=e/\ag (h.drop (a-l))<b) ⟨bJ a 0,f,?_,ac,alS _,ac,V,a4,by rw[qd,am];omega,ap⟩ ?_ ?_
 ·rw[show ay (ao (bJ a (0:Z))-1)=(a:Z)-1-((0:X):Z) from ?_];simp only[bb,sW];rw[cG aa aa];omega
 ·rintro l _ d9 ⟨i,h,rfl,ax,E,F,G,p,o,q⟩;obtain⟨g,an⟩:∃g,a=g+1+l:=⟨a-1-l,aa⟩;have al:((a:X):Z)-1-(l:Z)=(g:Z):=aa;rw[(aa:a-l=g+1)] at q;have R:aQ (ay ((g:Z)+ao d))=((g+(n+3):X):Z):=by
   simp only[bb];rw[cG aa aa,(aa:(g:Z)+(d.length:Z)=((g+(n+2):X):Z)),bg aa];rfl
  simp only[al,aH (aa:(g:Z)>=0),bF,R,wh,aI,vZ (aa:g<=g+(n+3)/\g+(n+3)<=h.length),Lb (aa:0<h.length),jr,show cb g (g+(n+3))=bp from by simp];obtain⟨m,v⟩:∃m,m=h.take g:=⟨_,bn⟩;obtain⟨j,B⟩:∃j,j=(h.drop g).take (n+3):=⟨_,bn⟩;obtain⟨k,x⟩:∃k,k=h.drop (g+(n+3)):=⟨_,bn⟩;have w:m.length=g:=(by rw[v,gu];omega);have s:j.length=n+3:=(by rw[B,gu,nT];omega);have y:h=m++(j++k):=(by rw[v,B,x,<-rA,j5,j5]);have d2:k.length=c-(g+(n+3)):=(by rw[x,nT,G]);have ce:aT m:=(by rw[v];exact p.take g);have D:aT j:=(by rw[B];exact(p.drop g).take _);have O:aT k:=(by rw[x];exact p.drop _);have d6:ag (h.drop g)=ag j+aY (n+3)*ag k:=(by rw[y,sU aa,rB aa,hx,mK,s]);have d7:ag (h.drop g)=h[g]+4294967296*ag (h.drop (g+1)):=nj aa;have en:=p.get (n:=g) aa;have T:=fe O;have d3:0<=aY (n+3)*ag k:=lO (fw (fZ _)) T;have ek:ag (h.drop g)<4294967296*b:=aa;have U:ag k=0:=by
   rcases iy 0 (ag k) with S|S
   ·exfalso;have:=jO (aa:1<=ag k) (fw (fZ (n+3)));have ds:aY (n+3)=4294967296*aY (n+2):=h9 (n+2);have:=fe D;omega
   omega
  have Q:zt d j n:=⟨z,D,L,s,co,a3,by rw[J];omega⟩;have av:0<=ag j/b:=al9 (fe D) aa;have a0:ag j/b<4294967296:=aqy K aa;have d8:=amB (ag j) b;have em:=anJ (ag j) K;have I:=Xf (A:=m) (C:=k) Q;rw[<-y,w,s,J] at I;refine ae.aO I ?_;rintro _ ⟨c1,rfl,c2,dg,eD⟩;dsimp only;rw[lI aa];refine bv.2 ⟨i.set g (ag j/b),m++(c1++k),?_,by simp[ax],E.set av a0,?_,by simp;omega,anK.2 ⟨ce,anK.2 ⟨dg,O⟩⟩,?_,?_⟩
  ·rw[cG aa aa];congr 1;omega
  ·intro bs eq bx;rw[zD aa];exact F bs aa (by simpa using bx)
  ·rw[nk aa,F g aa aa,mK,mK,w,eD];rw[y,mK,mK,w] at o;rw[c2];rw[s] at o;have bl:ag j=b*(ag j/b)+ag j %b:=aa;exact Oy o bl
  rw[(aa:a-(l+1)=g),sU aa,rB aa,hx,mK,U,eD];omega
 rintro _ ⟨i,h,rfl,ax,E,F,G,p,o,q⟩;have al:¬(((a:X):Z)-1-(a:Z)>=0):=aa;simp only[aD al,bP];rw[amm,np] at q;exact bv.2 (ad i h ax E G p o q)
def Gr {A B q r:Z} (f:0<B) (b:A=B*q+r) (c:0<=r) (d:r<B):A/B=q/\A %B=r:=by have e:=me A B;have a:A/B=q:=(by rw[b,Int.mul_add_ediv_left _ _ aa,qg c d];omega);refine⟨a,?_⟩;rw[a] at e;omega
theorem Xi (l:aT d) (p:aT f) (V:fc d) (F:fc f) (ex:d.length<=1000000) (fl:f.length<=1000000) (N:f≠[]):DB (d,f,())=Y (eX (ag d/ag f).toNat,eX (ag d %ag f).toNat,()):=by
 unfold DB;refine bO.1 ?_;have K:=fe l;have I:0<ag f:=(by have:=fe p;have:ag f≠0:=λam=>N (aon p F am);omega);refine ae.bs (In l p V F aa aa) ?_;dsimp only;rw[c7];refine ae.ite (λt=>?_) λt=>?_
 ·have C:ag d<ag f:=by
   unfold gb at t;split at t
   ·assumption
   split at t<;>omega
  refine ae.bs (z8 aa) (bv.2 ?_);rw[qg K C,sR K C];show(([]:ala),d,())=(eX 0,eX (ag d).toNat,());rw[I6,<-am6 l V]
 have el:ag f<=ag d:=by
  unfold gb at t;split at t
  ·omega
  omega
 rw[g2,c7];refine ae.ite (λh=>?_) λh=>?_
 ·have h:f.length=1:=(by simp only[bb] at h;omega);obtain⟨o,rfl⟩:=List.length_eq_one_iff.1 h;have co:=(ama.1 p).1;have u:ag [o]=o:=(by simp[ag]);rw[u] at I|-;have d2:0<=ag d %o:=anL _ aa;have en:ag d %o<o:=anJ _ I;refine ae.bs (y:=o) rfl (ae.bs (agc l aa aa co.2) ?_);dsimp only;refine ae.bs (pi (ama.2 ⟨⟨d2,aa⟩,alR⟩) ac) (bv.2 ?_);show(_,iR [ag d %o],())=_;rw[iR];simp[ag]
 obtain⟨b,cv⟩:∃b,f.length=b+2:=(by have:=sV.2 N;simp only[bb] at h;exact⟨f.length-2,aa⟩);have al:ay (ao f-1)=((b+1:X):Z):=(by simp only[bb];rw[cG aa aa];omega);obtain⟨a,T,d4,U,d5⟩:=aaS p F cv;have em:b+2<=d.length:=by
  rcases cU d.length (b+2) with j|j
  ·have:=rq l p F aa;omega
  exact j
 have D:=kj a;refine ae.bs (y:=f[b+1]) (by rw[al];exact eT aa) (ae.bs d4 ?_);refine ae.bs (Ma p aa aa) ?_;obtain⟨s,u⟩:∃s,s=eX (ag f*2^a).toNat:=⟨_,bn⟩;have bl:0<=ag f*2^a:=am7 aa aa;have M:ag s=ag f*2^a:=(by rw[u,r8 bl]);have v9:aT s:=(by rw[u];exact nC _);have d6:fc s:=(by rw[u];exact ye _);obtain⟨ds,c1⟩:=Xh M v9 d6 U d5;rw[<-u];have an:aQ (ao d)=((d.length+1:X):Z):=bg aa;refine ae.bs (y:=d.length+1) (by rw[an];exact im aa) ?_;refine ae.bs (Ma l aa aa) ?_;have a4:0<=ag d*2^a:=am7 aa aa;have ek:ag d*2^a<aY (d.length+1):=(by have w:ag d*2^a<aY d.length*2^a:=aoq (hm l) D;have x:aY d.length*2^a<=aY d.length*4294967296:=anM (by have:=wz T;omega) (alq (fZ _));rw[h9,alM 4294967296];omega);obtain⟨m,E⟩:∃m,m=eX (ag d*2^a).toNat:=⟨_,bn⟩;have R:m.length<=d.length+1:=(by rw[E];exact r9 aa);have d1:aT m:=(by rw[E];exact nC _);have d0:ag m=ag d*2^a:=(by rw[E,r8 a4]);rw[<-E];obtain⟨i,O⟩:∃i,i=jW (bJ (d.length+1) (0:Z)) m 0 (bJ (d.length+1) (0:Z)).length:=⟨_,bn⟩;have J:i=m++bJ (d.length+1-m.length) 0:=(by rw[O];unfold jW;rw[anN,apw,List.length_replicate,amv,ch R,aqz,amA R,aqA]);have dg:i.length=d.length+1:=(by rw[J];simp;omega);have S:aT i:=(by rw[J];exact anK.2 ⟨d1,alS _⟩);have Q:ag i=ag d*2^a:=(by rw[J,mK,qd,d0];omega);dsimp only;rw[<-O];obtain⟨g,cs⟩:∃g,d.length+1=g+(b+2):=⟨d.length+1-(b+2),aa⟩;have ap:ay (ao i-ao s)=((g:X):Z):=(by simp only[bb];rw[cG aa aa];omega);refine ae.bs (y:=g) (by rw[ap];exact im aa) ?_;have C:ag (i.drop g)<ag f*2^a:=(by have h:=pj i g aa;have w:=fe (S.take g);rw[Q] at h;have x:ag d*2^a<aY d.length*2^a:=aoq (hm l) D;have H:aY d.length=aY g*aY (b+1):=(by rw[<-uL];congr 1;omega);have v:aY g*ag (i.drop g)<aY g*(aY (b+1)*2^a):=(by rw[<-anO,<-H];omega);have z:=anP v (alq (fZ g));have d9:aY (b+1)*2^a<=aY (b+1)*2147483648:=anM (wz T) (alq (fZ _));omega);refine ae.aO (P:=λad=>∃c e,ad=(c,e,())/\c.length=g/\aT c/\e.length=d.length+1/\aT e/\ag e+ag f*2^a*ag c=ag d*2^a/\ag e<ag f*2^a) (Xg v9 M U ds c1 aa S Q dg cs aa C λc e h w x H v z=>⟨c,e,bn,h,w,x,H,v,z⟩) ?_;rintro _ ⟨c,e,rfl,ax,d3,fn,G,v,z⟩;have av:ao s=((b+2:X):Z):=(by simp only[bb];omega);dsimp only;rw[av];refine ae.bs (GO aa) ?_;have c2:=fe G;have dl:ag (e.take (b+2))=ag e:=by
  have h:=pj e (b+2) aa;have w:=fe (G.drop (b+2));have x:=fe (G.take (b+2));rcases iy 0 (ag (e.drop (b+2))) with j|j
  ·exfalso;have:=jO (aa:1<=ag (e.drop (b+2))) (fw (fZ (b+2)));omega
  rw[(aa:ag (e.drop (b+2))=0)] at h;omega
 have L:ag e=2^a*(ag d-ag f*ag c):=(by have d7:ag f*2^a*ag c=2^a*(ag f*ag c):=(by grind);have d8:2^a*(ag d-ag f*ag c)=2^a*ag d-2^a*(ag f*ag c):=Int.mul_sub ..;rw[jA (ag d)] at v;omega);have bx:0<=ag d-ag f*ag c:=by
  rcases iy (ag d-ag f*ag c) 0 with j|j
  ·have:=aqB D j;omega
  exact j
 have ce:ag d-ag f*ag c<ag f:=(by have:2^a*(ag d-ag f*ag c)<2^a*ag f:=(by rw[<-L,alM (2^a)];exact z);exact anP this (alq D));have ci:ag e/2^a=ag d-ag f*ag c:=(by rw[L];exact aqC _ aa);obtain⟨a3,f2⟩:=Gr (A:=ag d) (B:=ag f) (q:=ag c) (r:=ag d-ag f*ag c) I aa bx ce;refine ae.bs (pi ((G.take _).drop _) (by simp;omega)) ?_;have a0:iR (apu 0 (e.take (b+2)))=eX (ag e).toNat:=(by rw[List.drop_zero,iR,dl]);dsimp only;rw[a0];refine ae.bs (OB (nC _) (ye _) ?_ aa) ?_
 ·have:=r9 (n:=(ag e).toNat) (k:=b+2) aa;omega
 dsimp only;refine ae.bs (pi d3 aa) (bv.2 ?_);show(iR c,_,())=_;rw[r8 c2,ci,a3,f2,iR]
def OS (a:X):eX (a:Z).toNat=eX a:=by rw[fP]
theorem A4 (b:aF c<=32*a):(eX c).length<=a:=by refine r9 ?_;grind [rx,yS,fJ]
theorem C8:gb b e>=0↔e<=b:=by grind [gb]
theorem NX:gb b e<0↔b<e:=by grind [gb]
def Ct (a:oz):Prop:=aT a.2.1/\fc a.2.1/\a.2.1.length<=100000
def hM {z:Z} (a:aF z.natAbs<=3000000):Ct (aN z):=⟨m2 z,E2 z,A4 aa⟩
theorem qb (a:aT d) (b:fc d) (e:d.length<=1000000):iZ (d,())=Y (d,()):=by have c:=am6 a b;rw[pi a aa];show Y (eX (ag d).toNat,())=_;grind
theorem tg {neg:bz} {x:Z} (a:0<=x) (b:(eX x.toNat).length<=100000000):mw (neg,eX x.toNat,())=Y (aN (if neg then-x else x),()):=by grind [r8,xx,nC,hu]
theorem XD {x y:X} {k:X} (a:(eX x).length<=k) (b:(eX y).length<=k):(eX (x+y)).length<=k+1:=by refine r9 ?_;have c:=OR x;have d:=OR y;have e:=p2 a;have f:=p2 b;grind [h9,fZ]
def zj {l:ala} (d:aT l) (c:l.length<=a) (g:b<=ag l):(eX b.toNat).length<=a:=by refine r9 ?_;have e:=hm d;have f:=p2 c;have:=fZ a;omega
theorem MX {a b:oz} (t:Ct a) (u:Ct b):ts (a,b,())=Y (aN (hu a+hu b),()):=by
 obtain⟨j,a,_⟩:=a;obtain⟨k,b,_⟩:=b;obtain⟨c,g,r⟩:=t;obtain⟨d,h,s⟩:=u;dsimp only at c g r d h s;have x:=fe c;have y:=fe d;have ax:=hm c;have z:=hm d;have A:=p2 (m:=a.length) (n:=100000) r;have B:=p2 (m:=b.length) (n:=100000) s;have C:=fZ 100000;have w:∀e:Z,e<=ag a+ag b->(eX e.toNat).length<=100000001:=λe v=>(by have:(eX e.toNat).length<=100001:=(by refine r9 ?_;grind [h9]);omega);have q:∀e:Z,e<=ag a+ag b->(eX e.toNat).length<=100000000:=λe v=>(by have:(eX e.toNat).length<=100001:=(by refine r9 ?_;grind [h9]);omega);unfold ts;dsimp only;refine ai (qb c g aa) (ai (qb d h aa) ?_);dsimp only;cases i:(j==k) with
 |true=>
  have i:j=k:=(by grind);subst i;refine ai (Sd c d aa aa) (ai (tg aa (q _ aa)) ?_);grind [hu]
 |false=>
  have i:j=!k:=(by cases j<;>cases k<;>simp at i|-);refine ai (In c d g h aa aa) ?_;dsimp only;rw[c7];split
  ·rename_i l;have p:ag b<=ag a:=C8.1 l;have o:b.length<=a.length:=by
    rcases cU a.length b.length with f|f
    ·have:=rq c d h f;omega
    omega
   refine ai (QF c d aa o p) (ai (tg aa (q _ aa)) ?_);grind [hu]
  rename_i l;have p:ag a<ag b:=Int.not_le.1 (mt C8.2 l);have o:a.length<=b.length:=by
   rcases cU b.length a.length with f|f
   ·have:=rq d c g f;omega
   omega
  refine ai (QF d c aa o (fw p)) (ai (tg aa (q _ aa)) ?_);grind [hu]
def HO {x y:Z} (a:aF x.natAbs<=3000000) (b:aF y.natAbs<=3000000):ts (aN x,aN y,())=Y (aN (x+y),()):=by rw[MX (hM a) (hM b),oy,oy]
theorem agE {x y:Z} (b:aF x.natAbs<=3000000) (c:aF y.natAbs<=3000000):DA (aN x,aN y,())=Y (aN (x-y),()):=by unfold DA;have a:Ct ((!(aN y).1,(aN y).2):oz):=⟨m2 y,E2 y,(hM c).2.2⟩;refine ai (MX (hM b) a) ?_;rw[oy];have d:hu ((!(aN y).1,(aN y).2):oz)=-y:=(by have:=G8 (aN y).1 (aN y).2.1;have e:=oy y;grind);grind
theorem aaA (f:aF b.natAbs<=3000000) (g:aF e.natAbs<=3000000):Dy (aN b,aN e,())=Y (aN (b*e),()):=by
 unfold Dy;dsimp only;obtain⟨a,h,l⟩:=hM f;obtain⟨c,i,m⟩:=hM g;refine ai (qb a h aa) (ai (qb c i aa) ?_);dsimp only;refine ai (agU a c aa aa) ?_;rw[h5,h5,<-amM,OS];dsimp only;have n:(eX (b.natAbs*e.natAbs)).length<=100000000:=(by have:(eX (b.natAbs*e.natAbs)).length<=200000:=(by refine A4 ?_;have:=xA f g;omega);omega);have d:=tg (neg:=!((aN b).1==(aN e).1)) (x:=((b.natAbs*e.natAbs:X):Z)) aa (by grind);rw[OS] at d;refine ai d ?_;dsimp only;congr 3;show(if(!(br (b<0)==br (e<0)))=bp then _ else _)=_;rw[amM];rcases al8 b 0 with j|j<;>rcases al8 e 0 with k|k
 ·grind
 ·grind
 ·grind
 grind
theorem NY {x y:Z} (i:aF x.natAbs<=900000) (l:aF y.natAbs<=900000):An (aN x,aN y,())=Y (gb x y,()):=by
 obtain⟨c,d,m⟩:=hM (z:=x) aa;obtain⟨e,f,n⟩:=hM (z:=y) aa;unfold An;refine ai (uB (jX aa)) (ai (uB (jX aa)) ?_);dsimp only;rw[c7,c7];have h:∀a:Z,a<0/\fB a=-1\/a=0/\fB a=0\/0<a/\fB a=1:=λa=>(by grind [fB]);split
 ·rename_i o;unfold gb;grind
 split
 ·rename_i j k;unfold gb;grind
 rename_i j k;have p:fB x=fB y:=aa;refine ai (qb c d aa) (ai (qb e f aa) ?_);dsimp only;refine ai (In c e d f aa aa) ?_;rw[h5,h5];dsimp only;have i:=h x;have l:=h y;have:fB x*gb (x.natAbs:Z) (y.natAbs:Z)=gb x y:=by
  rcases i with⟨g,b⟩|⟨g,b⟩|⟨g,b⟩<;>rw[b]
  ·unfold gb;omega
  ·rw[nm];unfold gb;omega
  grind
 grind [cG,gb]
def aaD (b:Z) (a:X):(b.natAbs:Z)*2^a=((b.natAbs*2^a:X):Z):=by simp
theorem H7:aF (a*2^c)<=aF a+c:=by
 rcases oK a with b|b
 ·grind
 simp_all [rU,bc]
theorem agb (i:aF b.natAbs<=1900000) (h:a<=1048576):rZ (aN b,(a:Z),())=Y (aN (b*2^a),0,()):=by obtain⟨c,d,f⟩:=hM (z:=b) aa;unfold rZ;dsimp only;rw[aD (aa:¬((a:Z)< -1048576)),aD (aa:¬((a:Z)>1048576))];refine ai bn (ai (qb c d aa) ?_);dsimp only;rw[aH (aa:(a:Z)>=0)];refine ai (Ma c aa aa) ?_;rw[h5,aaD];have g:(eX (b.natAbs*2^a)).length<=100000:=A4 (by grind [H7]);have e:=tg (neg:=(aN b).1) (x:=((b.natAbs*2^a:X):Z)) aa (by grind);refine ai e ?_;dsimp only;congr 3;show(if br (b<0)=bp then _ else _)=_;grind
theorem QZ {m:Z} (a:0<b) (d:0<=m):-m/b=if m %b=0 then-(m/b) else-(m/b+1):=by
 have e:=me m b;have f:=oE m (aa:b≠0);have g:=qh m a;split
 ·rename_i c;refine(Gr (A:=-m) (B:=b) (q:=-(m/b)) (r:=0) a ?_ (am3 _) a).1;grind
 rename_i c;refine(Gr (A:=-m) (B:=b) (q:=-(m/b+1)) (r:=b-m %b) a ?_ aa aa).1;grind
theorem aga (u:aF b.natAbs<=1900000) (q:a<=1048576) (r:0<a):rZ (aN b,-(a:Z),())=Y (aN (b/2^a),0,()):=by
 obtain⟨e,f,g⟩:=hM (z:=b) aa;have i:=kj a;unfold rZ;dsimp only;rw[aD (aa:¬(-(a:Z)< -1048576)),aD (aa:¬(-(a:Z)>1048576))];refine ai bn (ai (qb e f aa) ?_);dsimp only;rw[aD (aa:¬(-(a:Z)>=0))];have al:ay (0- -(a:Z))=(a:Z):=(by grind [cG]);rw[al];refine ai (OB e f aa aa) ?_;rw[h5];have s:0<=(b.natAbs:Z)/2^a:=al9 aa aa;have j:(b.natAbs:Z)/2^a<=b.natAbs:=anQ _ aa;have h:∀d:Z,d<=b.natAbs->(eX d.toNat).length<=100000:=λd t=>zj (l:=(aN b).2.1) e g (by grind [h5]);have p:(eX ((b.natAbs:Z)/2^a+1).toNat).length<=100001:=(by have n:=XD (x:=((b.natAbs:Z)/2^a).toNat) (y:=1) (k:=100000) (h _ j) ab;grind);dsimp only;refine ai (y:=(eX (if b<0/\(b.natAbs:Z) %2^a≠0 then(b.natAbs:Z)/2^a+1 else(b.natAbs:Z)/2^a).toNat,(bq,([],())),())) ?_ ?_
 ·refine ai (y:=(br (b<0/\(b.natAbs:Z) %2^a≠0),(bq,([],())),())) ?_ ?_
  ·show(bif br (b<0)==bp then _ else _)=_;by_cases c:b<0
   ·simp[c]
   grind
  dsimp only;by_cases c:b<0/\(b.natAbs:Z) %2^a≠0
  ·rw[aH c,au c];refine ai (Sd (nC _) (ama.2 ⟨ab,alR⟩) (by grind) ac) ?_;grind [r8,ag]
  grind
 dsimp only;refine ai (tg ?_ ?_) ?_
 ·omega
 ·grind
 dsimp only;congr 3;show(if br (b<0)=bp then _ else _)=_;by_cases c:b<0
 ·rw[au (aH c)];have o:=QZ (m:=b.natAbs) i aa;grind
 grind
theorem Xj {x y:Z} (u:aF x.natAbs<=1900000) (w:aF y.natAbs<=1900000) (v:0<=x) (k:y≠0):Dw (aN x,aN y,())=Y (aN (x/y),aN (x %y),0,()):=by obtain⟨b,d,g⟩:=hM (z:=x) aa;obtain⟨c,e,h⟩:=hM (z:=y) aa;unfold Dw;dsimp only;refine ai (qb c e aa) ?_;dsimp only;have f:(aN y).2.1≠[]:=λi=>k (vM.1 i);rw[ua,aD f];refine ai (qb b d aa) ?_;dsimp only;refine ai (Xi b c d e aa aa f) ?_;rw[h5,h5];dsimp only;have m:(aN x).1=bq:=aD aa;have n:0<=(x.natAbs:Z)/(y.natAbs:Z):=al9 aa aa;have s:(x.natAbs:Z)/(y.natAbs:Z)<=x.natAbs:=anQ _ aa;have o:0<=(x.natAbs:Z) %(y.natAbs:Z):=anL _ aa;have t:(x.natAbs:Z) %(y.natAbs:Z)<(y.natAbs:Z):=anJ _ aa;have q:∀a:Z,a<=x.natAbs->(eX a.toNat).length<=100000:=λa p=>zj (l:=(aN x).2.1) b g (by grind [h5]);have r:∀a:Z,a<=y.natAbs->(eX a.toNat).length<=100000:=λa p=>zj (l:=(aN y).2.1) c h (by grind [h5]);rw[m];refine ai bn ?_;dsimp only;refine ai (tg n (by grind)) (ai (tg o (by grind)) ?_);dsimp only;have al:(x.natAbs:Z)=x:=aa;rw[al];have j:x %(y.natAbs:Z)=x %y:=(by grind [aqD,al8]);rw[j];congr 3;show(if(!(bq==br (y<0)))=bp then _ else _)=_;grind [aD,aH,aqE,al8]
theorem Fl {n:Z} (c:-9223372036854775808<=n) (d:n<=9223372036854775807):vq (n,())=Y (aN n,()):=by
 unfold vq;dsimp only;obtain⟨a,e,b,f⟩:∃a:Z,a=n.natAbs/\0<=a/\a<=9223372036854775808:=⟨_,bn,aa,aa⟩;refine ai (y:=(a,(bq,([],())),())) ?_ ?_
 ·rw[c7];grind [sJ]
 dsimp only;rw[nN,bN,sk b aa,lH (x:=a/4294967296) aa aa];refine ai (xx (ama.2 ⟨⟨aa,aa⟩,ama.2 ⟨⟨aa,aa⟩,alR⟩⟩) ac) ?_;grind [ag,hu]
theorem Zf (c:aT d) (s:d.length<=2) {e:cQ->Prop} (q:e (ag d,())):ae (loop (σ:=ny) (ρ:=cQ) (λ(j,b,_)=>
 bif br (b<ao d) then
 (aw d b).bind λo=>
 (it bD (aL o) (ay (32*b))).bind λp=>
 Y (.inl (gK bD j p,aQ b,())) else
 Y (.inr (j,()))) (0,0,())) e:=by
 refine ae.steps d.length (λa n=>n=(ag (d.take a),(a:Z),())) rfl ?_ ?_
 ·rintro a _ g rfl;have i:=c.get g;simp only[aH (show(a:Z)<ao d by grind),bF,eT g,aI];have k:=fe (c.take a);have f:=hm (c.take a);rw[gu,hR aa,rx] at f;have al:ay (32*(a:Z))=((32*a:X):Z):=(by grind [cG]);have l:(2:Z)^(32*a)<=4294967296:=by
   rcases(aa:a=0\/a=1) with rfl|rfl<;>decide
  have m:=kj (32*a);have r:d[a]*2^(32*a)<4294967296*4294967296:=(by have:=jO l i.1;omega);have h:0<=d[a]*2^(32*a):=lO i.1 (fw m);rw[al,fL (x:=d[a]) aa aa,p8 aa aa,aI,fP,sR h aa,nJ (32*a) k f h aa aa (aor _ _),bg aa];grind [iS,rx,alM,bv]
 rintro _ rfl;simp_all [bv,fU,bc,aD,bb,bP,ao]
theorem Zg {z:Z} (h:0<=z) (c:z<9223372036854775808):Dx (aN z,())=Y (z,bp,()):=by have i:aF z.natAbs<=64:=fJ.2 aa;obtain⟨a,b,g⟩:=hM (z:=z) aa;have d:(aN z).2.1.length<=2:=A4 aa;unfold Dx;dsimp only;refine bO.1 ?_;refine ae.bs (qb a b aa) ?_;dsimp only;rw[aD (show¬(ao (aN z).2.1>2) by grind),bP];refine ae.aO (P:=λf=>f=(z,())) (Zf a d (by grind [h5])) ?_;rintro _ rfl;have e:(aN z).1=bq:=aD aa;dsimp only;rw[e];refine ae.bs (y:=.inr (z,bp,())) ?_ (bv.2 bn);refine ai bn ?_;dsimp only[bP];rw[aH (show z<9223372036854775808 from c)];refine ai bn ?_;dsimp only[bF];grind [cG]
theorem GH (p:aT d) (q:d.length<=100000000):m0 (d,())=Y (iR d,()):=by
 unfold m0;refine bO.1 ?_;refine ae.aO (P:=λh=>∃a:X,h.1=(a:Z)/\a<=d.length/\(∀b,a<=b->(k:b<d.length)->d[b]=0)/\fc (d.take a)) ?_ ?_
 ·refine alv (λe=>∃a:X,e.1=(a:Z)/\a<=d.length/\(∀b,a<=b->(k:b<d.length)->d[b]=0)) (λe=>e.1.toNat) ⟨d.length,bn,bc _,λb f g=>by omega⟩ ?_;rintro⟨_,_⟩ ⟨a,rfl,f,g⟩;rcases a with _|a
  ·refine bv.2 ⟨0,bn,eJ _,g,λm l=>by grind⟩
  have al:ay (((a+1:X):Z)-1)=(a:Z):=(by grind [cG]);have j:br (((a+1:X):Z)>0)=bp:=aH aa;simp only[al,j,alJ,bF,eT (show a<d.length from f),aI];by_cases i:d[a]=0
  ·rw[g2,aH i];grind [cn,bv]
  rw[g2,aD i];refine bv.2 ⟨a+1,bn,f,g,λm l=>?_⟩;grind
 rintro⟨_,_⟩ ⟨a,rfl,f,g,n⟩;dsimp only;refine ae.aO (P:=λh=>h=(d.take a,())) ?_ ?_
 ·refine ae.steps a (λc e=>e=((c:Z),d.take c,())) rfl ?_ ?_
  ·rintro c _ o rfl;simp only[aH (aa:(c:Z)<(a:Z)),bF,eT (aa:c<d.length),aI];grind [ali,bX,bv,e3,bg]
  rintro _ rfl;simp_all [bv,aD,bP]
 grind [bv,T9]
theorem B3 (c:aT d) (e:d.length<=100000000):mx (h,d,())=Y (aN (hu (h,d,())),()):=by
 unfold mx;refine ai (GH c e) ?_;have a:=OO (neg:=h) (L5 d) (T8 d);have b:hu (h,iR d,())=hu (h,d,()):=(by grind [L6,hu]);rw[<-b,<-a];dsimp only;cases h
 ·simp
 simp_all [alJ,bF,anB,cB,bb,sV]
theorem rc (a:aT d) (c:d.length<=100000000) (e:ag d=b):mx (h,d,())=Y (aN (if h then-b else b),()):=by grind [B3,hu]
theorem uz {l:ala} (a:aT l) (b:fc l) (d:l.length<=1000000):m0 (l,())=Y (l,()):=by have c:=am6 a b;rw[GH a aa];show Y (eX (ag l).toNat,())=_;grind
def SW {a:oz} (b:aT a.2.1) (c:a.2.1.length<=100000000):pM (a,())=Y (aN (hu a),()):=by unfold pM;exact ai (B3 b c) rfl
def sx (a:aF b.natAbs<=3000000):pM (aN b,())=Y (aN b,()):=by rw[SW (m2 b) (by have:=(hM a).2.2;omega),oy]
theorem Lw (a:aF b.natAbs<=3000000):x1 (aN b,())=Y (aN (-b),()):=by unfold x1;refine ai (B3 (m2 b) (by have:=(hM a).2.2;omega)) ?_;grind [oy,G8]
theorem Gs (a:aF b.natAbs<=3000000):r1 (aN b,())=Y (aN b.natAbs,()):=by unfold r1;refine ai (B3 (m2 b) (by have:=(hM a).2.2;omega)) ?_;grind [oy,Ul,m2]
theorem kP {z:Z} (a:aF z.natAbs<=3000000):ls (aN z,())=Y (fB z,()):=by
 unfold ls;refine ai (sx a) ?_;simp only[ua,c7,vM];unfold fB;split
 ·rfl
 show(bif br (z<0) then _ else _)=_;grind
theorem Lk {z:Z} (d:aF z.natAbs<=3000000):AH (aN z,())=Y ((aF z.natAbs:Z),()):=by obtain⟨a,b,e⟩:=hM d;have c:=Qc a b aa;rw[h5] at c;unfold Ar at c;unfold AH;refine ai (uz a b aa) ?_;grind
theorem S8 (v:aF b.natAbs<=900000) (s:b≠0):r3 (aN b,())=Y ((cR b.natAbs:Z),()):=by
 obtain⟨e,i,r⟩:=hM (z:=b) aa;unfold r3;refine ai (uz e i aa) ?_;have u:=h5 b;dsimp only;generalize(aN b).2.1=a at*;have m:b.natAbs=(ag a).toNat:=aa;rw[m];refine bO.1 (ae.aO (P:=λo=>match o with|.inl _=>b4|.inr p=>p=((cR (ag a).toNat:Z),())) ?_ ?_)
 ·refine ae.steps a.length (λc q=>q=((c:Z),())/\ag (a.take c)=0) ⟨bn,bn⟩ ?_ ?_
  ·rintro c _ f ⟨rfl,j⟩;have h:=e.get f;simp only[aH (show(c:Z)<ao a by grind),bF,eT f,aI,fQ];by_cases d:a[c]=0
   ·simp only[aH d,iG,bP];grind [iS,bv,bg]
   simp only[aD d,oA,bF];have k:=Ug (x:=0) j f e d;rw[k];obtain⟨g,l⟩:=gh h.1;rw[l] at h d|-;have t:cR g<32:=jE (qc aa) (fJ.2 aa);refine ae.of_eq (ai (Uf (n:=g) aa aa) rfl) ?_;grind [cG]
  grind
 grind [bv]
theorem Sw {n:X} (c:n<=1000000000):∃b a:X,n=32*b+a/\a<32/\kM bK (n:Z) 32=Y (b:Z)/\jy (n:Z) 32=Y (a:Z):=by
 refine⟨n/32,n %32,aa,aa,?_,?_⟩
 ·unfold kM;rw[au ab,Hk aa,cu aa aa];simp
 simp_all [au,Hl,jy]
theorem Lz {n:X} (u:aT d) (I:d.length<=10000000) (E:n<=100000000):ae (x3 (d,(n:Z),())) (λl=>∃a,l=(a,())/\aT a/\ag a=ag d*2^n/\a.length=n/32+d.length+1):=by
 unfold x3;obtain⟨g,b,H,F,v,w⟩:=Sw (n:=n) aa;have j:=kj b;have A:=wy (p:=b) aa;have z:(2:Z)^b<=2147483648:=wz aa;dsimp only;refine ae.bs v (ae.bs (im aa) ?_);refine ae.aO (P:=λl=>∃c a,l=(c,a,())/\a.length=g+d.length/\aT a/\0<=c/\c<2^b/\ag a+aY (g+d.length)*c=aY g*(2^b*ag d)) ?_ ?_
 ·refine ae.steps d.length (λe y=>∃c a,y=(c,(e:Z),a,())/\a.length=g+e/\aT a/\0<=c/\c<2^b/\ag a+aY (g+e)*c=aY g*(2^b*ag (d.take e))) ⟨0,bJ g 0,bn,ac,alS _,aa,j,by simp[ag,qd]⟩ ?_ ?_
  ·rintro e _ m ⟨c,a,rfl,ax,h,i,q,k⟩;have o:=u.get m;simp only[aH (show(e:Z)<ao d by grind),bF,eT m,aI,w];have C:d[e]*2^b<4294967296*2^b:=sS o.2 j;have B:d[e]*2^b<=4294967295*2^b:=nQ aa aa;have D:0<=d[e]*2^b:=lO o.1 (fw j);obtain⟨f,G,J,K,L⟩:∃f,f=c+d[e]*2^b/\0<=f/\f<18446744073709551616/\f<4294967296*2^b:=⟨_,bn,aa,aa,aa⟩;have r:it bD (aL d[e]) (b:Z)=Y (d[e]*2^b):=by
    rw[fL (x:=d[e]) aa aa,p8 aa aa,fP];congr 1;omega
   have s:gK bD c (d[e]*2^b)=f:=(by grind [nJ,aor]);have t:f/4294967296<2^b:=sQ ab aa;rw[r,aI,s,e3 (by grind),nN,qe];refine bv.2 ⟨f/4294967296,a++[f %4294967296],by rw[bg aa],by grind,h.snoc aa aa,aa,t,?_⟩;grind [uL,amB,rr,h9,iS]
  rintro _ ⟨c,a,rfl,ax,h,i,q,k⟩;simp only[aD (show¬((d.length:Z)<ao d) by grind),bP];rw[fU (bc _)] at k;grind [bv]
 rintro _ ⟨c,a,rfl,ax,h,i,q,k⟩;dsimp only;rw[lH i aa,e3 (by grind)];refine bv.2 ⟨a++[c],bn,h.snoc i aa,?_,by grind⟩;grind [rr,rx,aqF]
theorem SA (g:aT d) (h:aT f) (o:fc d) (p:fc f) (t:d.length<=10000000) (u:f.length<=10000000):AK (d,f,())=Y (gb (ag d) (ag f),()):=by
 unfold AK;refine bO.1 ?_;simp only[fQ,bb];by_cases s:d.length=f.length
 ·rw[aH (aa:(d.length:Z)=f.length)];simp only[iG,bP];refine ae.aO (P:=λl=>match l with|.inl _=>ag d=ag f|.inr m=>m=(gb (ag d) (ag f),())) ?_ ?_
  ·refine ae.steps d.length (λb n=>n=(((d.length:X):Z)-1-b,())/\ag (d.drop (d.length-b))=ag (f.drop (d.length-b))) ⟨?_,?_⟩ ?_ ?_
   ·grind [cG]
   ·rw[qn aa,qn aa]
   ·rintro b _ q ⟨rfl,e⟩;obtain⟨a,r⟩:∃a,d.length=a+1+b:=⟨d.length-1-b,aa⟩;have al:((d.length:X):Z)-1-(b:Z)=(a:Z):=aa;have i:a<d.length:=aa;have j:a<f.length:=aa;rw[(aa:d.length-b=a+1)] at e;simp only[al,aH (aa:(a:Z)>=0),bF,eT i,eT j,aI];by_cases k:d[a]=f[a]
    ·simp only[aH k,iG,bP];grind [nj,cG,bv]
    simp only[aD k,oA,bF];rw[c7];refine ae.ite (λc=>?_) λc=>?_
    ·refine bv.2 ?_;show((-1:Z),())=_;unfold gb;rw[au (G9 g h i j e c)]
    refine bv.2 ?_;show((1:Z),())=_;have:=G9 h g j i e.symm aa;grind [gb]
   rintro _ ⟨rfl,e⟩;have al:¬(((d.length:X):Z)-1-(d.length:Z)>=0):=aa;simp_all [bv,aD,bP]
  grind [bv,gb,ag]
 rw[aD (aa:¬(d.length:Z)=f.length)];simp only[oA,bF];rw[c7];unfold gb;refine ae.ite (λc=>bv.2 ?_) λc=>bv.2 ?_
 ·rw[au (rq g h p aa)]
 have:=rq h g o aa;grind
theorem ZU (k:aT d) (v:j<32) (u:c+a<d.length) (t:b=ag (d.drop c)):b/2^j/aY a %4294967296=(d[c+a]+4294967296*d.getD (c+a+1) 0)/2^j %4294967296:=by
 have q:=kj j;have s:=wy (p:=j) aa;have r:b/aY a=(d[c+a]+4294967296*d.getD (c+a+1) 0)+4294967296*(4294967296*ag (d.drop (c+a+2))):=by
  have h:d.drop c=(d.drop c).take a++d.drop (c+a):=(by grind [ann,anA]);have g:b=ag ((d.drop c).take a)+aY a*ag (d.drop (c+a)):=(by grind [mK,alD,apa,amA]);have m:=fe ((k.drop c).take a);have i:=hm ((k.drop c).take a);rw[gu,nT,hR aa] at i;have n:ag (d.drop (c+a))=d[c+a]+4294967296*ag (d.drop (c+a+1)):=nj aa;have o:ag (d.drop (c+a+1))=d.getD (c+a+1) 0+4294967296*ag (d.drop (c+a+2)):=by
   rcases cU (c+a+1) d.length with f|f
   ·grind [nj,kr]
   rw[pQ f,qn f,qn aa];rfl
  rw[g,w5 _ _ aa,qg m i,n,o];grind
 have h:b/2^j/aY a=b/aY a/2^j:=(by rw[uO (fw q),uO (fw (fZ a)),jA]);rw[h,r];generalize d[c+a]+4294967296*d.getD (c+a+1) 0=l;have g:∀e:Z,l+4294967296*(4294967296*e)=l+2^j*(4294967296*(2^(32-j)*e)):=λe=>(by grind);rw[g,w5 _ _ aa,zy]
theorem Z3 (e:aT d) (l:c<32) (j:a<d.length):(br (ag d %(aY a*2^c)≠0))=(br (ag (d.take a)≠0)||br (d[a] %2^c≠0)):=by have h:=kj c;have k:=wy (p:=c) aa;have i:=fe (e.take a);have f:=hm (e.take a);rw[gu,hR aa] at f;have g:=Qq (x:=ag (d.take a)) (b:=aY a) (y:=ag (d.drop a)) (P:=2^c) (P':=0) (fZ a) ⟨i,f⟩ h;rw[<-pj d a aa] at g;simp_all [nj,jb,zy,ag]
theorem LA {a:ala} {n:X} (f:aT a) (bl:a.length<=10000000) (a0:n<=1000000000):ae (x4 (a,(n:Z),())) (λh=>∃e,h=(e,br (ag a %2^n≠0),())/\aT e/\ag e=ag a/2^n/\e.length<=a.length):=by
 unfold x4;obtain⟨b,d,R,C,o,O⟩:=Sw (n:=n) aa;have y:=kj d;have am:=wy (p:=d) aa;have V:(2:Z)^d<=2147483648:=wz aa;have K:(2:Z)^n=aY b*2^d:=(by rw[rx,R,aqF]);have E:=fe f;dsimp only;refine ae.aO (P:=λh=>h=(br (ag (a.take b)≠0),())) ?_ ?_
 ·have a4:∀c,min b a.length=c->br (ag (a.take b)≠0)=br (ag (a.take c)≠0):=λc s=>by
   grind
  refine ae.steps (min b a.length) (λc m=>m=(br (ag (a.take c)≠0),(c:Z),())) (by simp[ag]) ?_ ?_
  ·rintro c _ s rfl;have q:=f.get (n:=c) aa;simp only[o,aI,aH (aa:(c:Z)<(b:Z)),alJ,bF,aH (show(c:Z)<ao a by grind),eT (aa:c<a.length),bg (aa:c<9223372036854775807),fQ];have v:ag (a.take (c+1))=ag (a.take c)+aY c*a[c]:=iS aa;have ad:=fe (f.take c);have w:=fZ c;by_cases i:ag (a.take c)=0
   ·rw[aD (show¬(ag (a.take c)≠0) fromλk=>k i)];refine bv.2 ?_;show((!br (a[c]=0)),_,())=_;congr 1;rw[v,i];by_cases U:a[c]=0
    ·grind
    have:=qi w (aa:0<a[c]);grind
   rw[aH (show ag (a.take c)≠0 from i)];refine bv.2 ?_;show(bp,_,())=_;congr 1;have:=lO (fw w) q.1;grind
  rintro _ rfl;simp only[o,aI];by_cases i:min b a.length<b
  ·simp only[aH (aa:((min b a.length:X):Z)<(b:Z)),alJ,bF,aD (show¬(((min b a.length:X):Z)<ao a) by grind),bP,aI];grind [bv]
  simp only[aD (aa:¬(((min b a.length:X):Z)<(b:Z))),show(bq==bp)=bq from rfl,bP,aI];grind [bv]
 rintro _ rfl;dsimp only;refine ae.bs O (ae.bs o ?_);rw[K];rcases cn b a.length with k|k
 ·obtain⟨g,z⟩:∃g,g=ag (a.drop b):=⟨_,bn⟩;have A:0<=g:=(by rw[z];exact fe (f.drop b));have Q:ag a=ag (a.take b)+aY b*g:=(by grind [pj]);have N:=fe (f.take b);have B:=hm (f.take b);rw[gu,hR aa] at B;have an:ag a/(aY b*2^d)=g/2^d:=by
   rw[<-uO (fw (fZ b)),Q,w5 _ _ aa,qg N B,amC]
  obtain⟨l,av⟩:∃l,a.length=b+l:=⟨a.length-b,aa⟩;have ap:g<aY l:=(by have:=hm (f.drop b);grind);have J:=Z3 f C k;refine ae.aO (P:=λh=>∃e,h=(br (ag a %(aY b*2^d)≠0),e,())/\e.length=l/\aT e/\ag e=g/2^d) ?_ ?_
  ·refine ae.steps l (λc m=>∃e,m=(if c=0 then br (ag (a.take b)≠0) else br (ag a %(aY b*2^d)≠0),((b+c:X):Z),e,())/\e.length=c/\aT e/\ag e+aY c*(g/2^d/aY c)=g/2^d) ⟨[],bn,bn,alR,by simp[ag,zq]⟩ ?_ ?_
   ·rintro c _ s ⟨e,rfl,ax,t,F⟩;have q:=f.get (n:=b+c) aa;have S:=f.getD (b+c+1);obtain⟨j,D,T,bx⟩:∃j,j=a[b+c]+4294967296*a.getD (b+c+1) 0/\0<=j/\j<18446744073709551616:=⟨_,bn,aa,aa⟩;have L:g/2^d/aY c %4294967296=j/2^d %4294967296:=(by rw[D];exact ZU f C aa z);have a3:0<=j/2^d:=al9 T (alq y);have G:aQ ((b+c:X):Z)=((b+c+1:X):Z):=bg aa;dsimp only;rw[a7 (aH (show((b+c:X):Z)<ao a by grind))];refine ae.aO (P:=λh=>h=(br (ag a %(aY b*2^d)≠0),e++[j/2^d %4294967296],())) ?_ ?_
    ·refine ae.bs (eT aa) ?_;refine ae.aO (P:=λh=>h=(j,e,())) ?_ ?_
     ·rw[G,c7];refine ae.ite (λi=>?_) λi=>?_
      ·have i:b+c+1<a.length:=(by grind);rw[eT i,aI,fL (x:=a[b+c+1]) (by grind) (by grind),p8 ab ab];rw[kr i] at D S;have H:a[b+c+1]*2^(32:Z).toNat %18446744073709551616=4294967296*a[b+c+1]:=by
        grind
       rw[aI,H,fL aa aa,nJ 32 q.1 q.2 aa aa aa aa];grind [bv]
      grind [bb,pQ,fL,bv]
     rintro _ rfl;dsimp only;refine ae.aO (P:=λh=>h=(br (ag a %(aY b*2^d)≠0),e,())) ?_ ?_
     ·refine ae.bs o ?_;by_cases M:c=0
      ·subst M;have r:(((b+0:X):Z)==(b:Z))=bp:=ac;rw[r];simp only[alJ,bF];refine ae.bs (eT aa) ?_;rw[Ty aa aa,aI,fP,am9,sR aa aa,lH aa aa,M5 d (f.get (n:=b+0) aa).1 (f.get (n:=b+0) aa).2 aa,fQ,J];grind [aD,bv,aH]
      have r:(((b+c:X):Z)==(b:Z))=bq:=(by grind);rw[r];simp only[show(bq==bp)=bq from rfl,bP];simp_all [ar,bv]
     rintro _ rfl;dsimp only;rw[zb aa aa,bN,alL,e3 (by grind),qe];grind [bv]
    rintro _ rfl;dsimp only;refine bv.2 ⟨e++[j/2^d %4294967296],by grind,by grind,t.snoc aa aa,?_⟩;rw[rr,ax,<-L,h9,alM 4294967296 (aY c),<-aqv (alq (fZ c))];grind
   rintro _ ⟨e,rfl,ax,t,F⟩;dsimp only;rw[a2 (aD (show¬(((b+l:X):Z)<ao a) by grind)),b8 aa];refine bv.2 ⟨e,bn,ax,t,?_⟩;have u:0<=g/2^d:=al9 A (alq y);have I:g/2^d<=g:=anQ _ A;rw[Int.ediv_eq_zero_of_lt u aa] at F;omega
  grind [bv]
 have u:=hm f;have I:=p2 k;have v:aY b*1<=aY b*2^d:=jO aa (fw (fZ b));rw[qg E aa,sR E aa,fU k];refine ae.aO (P:=λh=>h=(br (ag a≠0),[],())) ?_ ?_
 ·refine ae.steps 0 (λc m=>m=(br (ag a≠0),(b:Z),[],())) rfl (λc m s=>by omega) ?_;rintro _ rfl;simp_all [bv,a2,aD,ao]
 rintro _ rfl;exact bv.2 ⟨[],bn,alR,bn,ac⟩
theorem aeZ (o:aT d) (p:aT f) (y:d.length<=10000000) (z:f.length<=10000000):ae (Eo (d,f,())) (λh=>∃a,h=(a,())/\aT a/\ag a=ag d+ag f/\a.length<=d.length+f.length+1):=by
 unfold Eo;dsimp only;obtain⟨g,u⟩:∃g,g=max d.length f.length:=⟨_,bn⟩;have q:(if ao f>ao d then ao f else ao d)=(g:Z):=(by grind);rw[q];refine ae.aO (P:=λh=>∃b a,h=(b,a,())/\a.length=g/\aT a/\0<=b/\b<=1/\ag a+aY g*b=ag d+ag f) ?_ ?_
 ·refine ae.steps g (λc r=>∃b a,r=(b,(c:Z),a,())/\a.length=c/\aT a/\0<=b/\b<=1/\ag a+aY c*b=ag (d.take c)+ag (f.take c)) ⟨0,[],bn,bn,alR,aa,aa,by simp[ag]⟩ ?_ ?_
  ·rintro c _ t ⟨b,a,rfl,l,i,j,m,n⟩;have w:=o.getD c;have x:=p.getD c;obtain⟨e,v,A,B,s⟩:∃e,e=b+d.getD c 0+f.getD c 0/\0<=e/\e<18446744073709551616/\e/4294967296<=1:=⟨_,bn,aa,aa,aa⟩;dsimp only;rw[a7 (aH (aa:(c:Z)<(g:Z)))];refine ae.aO (P:=λh=>h=(e/4294967296,a++[e %4294967296],())) ?_ ?_
   ·refine ae.aO (P:=λh=>h=(b+d.getD c 0,a,())) ?_ ?_
    ·simp only[c7];refine ae.ite (λk=>?_) λk=>?_
     ·grind [fL,bv,kr,eT,bb]
     simp_all [pQ,anH,bv]
    rintro _ rfl;refine ae.aO (P:=λh=>h=(e,a,())) ?_ ?_
    ·simp only[c7];refine ae.ite (λk=>?_) λk=>?_
     ·grind [fL,bv,kr,eT,bb]
     simp_all [pQ,anH,bv]
    grind [e3,qe,nN,bv]
   rintro _ rfl;dsimp only;refine bv.2 ⟨e/4294967296,a++[e %4294967296],by rw[bg aa],by grind,i.snoc aa aa,aa,s,?_⟩;rw[rr,l,h9,zk,zk];grind
  rintro _ ⟨b,a,rfl,l,i,j,m,n⟩;dsimp only;rw[a2 (aD (aa:¬((g:Z)<(g:Z))))];grind [bv,ch]
 rintro _ ⟨b,a,rfl,l,i,j,m,n⟩;dsimp only;rw[e3 (by grind),lH j aa];refine bv.2 ⟨a++[b],bn,i.snoc j aa,?_,by grind⟩;grind [rr]
theorem Tz (a:Z):eQ .u64 a 63=Y (a/9223372036854775808):=by have:eQ .u64 a 63=Y (a.fdiv 9223372036854775808):=rfl;grind
theorem S7 (o:aT d) (p:aT f) (A:d.length<=10000000) (w:f.length<=d.length) (x:ag f<=ag d):ae (AL (d,f,())) (λg=>∃a,g=(a,())/\aT a/\ag a=ag d-ag f/\a.length=d.length):=by
 unfold AL;dsimp only;refine ae.aO (P:=λg=>∃a b,g=(a,())/\a.length=d.length/\aT a/\0<=b/\b<=1/\ag a-aY d.length*b=ag d-ag f) ?_ ?_
 ·refine ae.steps d.length (λc q=>∃b a,q=(b,(c:Z),a,())/\a.length=c/\aT a/\0<=b/\b<=1/\ag a-aY c*b=ag (d.take c)-ag (f.take c)) ⟨0,[],bn,bn,alR,aa,aa,by simp[ag]⟩ ?_ ?_
  ·rintro c _ l ⟨b,a,rfl,h,i,j,k,m⟩;have y:=o.get l;have z:=p.getD c;obtain⟨e,v,r,s⟩:∃e,e=d[c]-b-f.getD c 0/\-4294967296<=e/\e<4294967296:=⟨_,bn,aa,aa⟩;dsimp only;rw[a7 (aH (show(c:Z)<ao d by grind))];refine ae.aO (P:=λg=>g=(-(e/4294967296),a++[e %4294967296],())) ?_ ?_
   ·refine ae.bs (eT l) ?_;refine ae.aO (P:=λg=>g=(e %18446744073709551616,a,())) ?_ ?_
    ·simp_all [bb,pQ,bv,sJ,eT,kr,ae.ite,c7]
    grind [e3,qe,Tz,bv]
   rintro _ rfl;dsimp only;refine bv.2 ⟨-(e/4294967296),a++[e %4294967296],by rw[bg aa],by grind,i.snoc aa aa,aa,aa,?_⟩;rw[rr,h,h9,iS l,zk];grind
  rintro _ ⟨b,a,rfl,h,i,j,k,m⟩;dsimp only;rw[a2 (aD (show¬((d.length:Z)<ao d) by grind))];refine bv.2 ⟨a,b,bn,h,i,j,k,?_⟩;simp_all [ch,cf]
 rintro _ ⟨a,b,rfl,h,i,j,k,m⟩;have n:=hm i;have t:=fZ d.length;rw[h] at n;have u:b=0:=(by grind);grind [bv]
theorem afL (y:aT f) (q:a<f.length) (z:aT d) (L:a+d.length<c) (J:c<=100000000) (w:g.length=c) (x:aT g) (C:jg g (a+d.length)) {p:jf->Prop} (K:∀h b,b.length=c->aT b->jg b (a+d.length)->0<=h->h<4294967296->ag b+aY (a+d.length)*h=ag g+aY a*(f[a]*ag d)->p (h,b,())):ae (loop (σ:=qD) (ρ:=jf) (λ(k,j,m,_)=>
 bif br (j<ao d) then
 (aw f (a:Z)).bind λu=>
 (aw d j).bind λs=>
 rd m (ay ((a:Z)+j)) λt=>
 wr m (ay ((a:Z)+j)) (eD (aL (aL (k+aL (aL u*aL s))+aL t))) λI=>
 (eQ bD (aL (aL (k+aL (aL u*aL s))+aL t)) 32).bind λH=>
 Y (.inl (H,aQ j,I,())) else
 Y (.inr (k,m,()))) (0,0,g,())) p:=by
 refine ae.steps d.length (λe G=>∃h b,G=(h,(e:Z),b,())/\b.length=c/\aT b/\jg b (a+d.length)/\0<=h/\h<4294967296/\ag b+aY (a+e)*h=ag g+aY a*(f[a]*ag (d.take e))) ⟨0,g,bn,w,x,C,aa,aa,by simp[ag]⟩ ?_ ?_
 ·rintro e _ l ⟨h,b,rfl,ax,o,r,D,E,F⟩;have A:=y.get q;have B:=z.get l;have N:=o.get (n:=a+e) aa;have M:=BD A B;obtain⟨i,O,P,Q⟩:∃i,i=h+f[a]*d[e]+b[a+e]/\0<=i/\i<18446744073709551616:=⟨_,bn,aa,aa⟩;simp only[aH (show(e:Z)<ao d by grind),bF,eT l,eT q,aI];have al:ay ((a:Z)+(e:Z))=((a+e:X):Z):=(by grind [cG]);rw[al,iE aa];have v:aL (aL (h+aL (aL f[a]*aL d[e]))+aL b[a+e])=i:=by
   grind [fL]
  rw[v,qe,lI aa,nN];refine bv.2 ⟨i/4294967296,b.set (a+e) (i %4294967296),by rw[bg aa],by grind,o.set aa aa,r.LH _ aa,aa,aa,?_⟩;rw[nk aa,(aa:a+(e+1)=(a+e)+1),h9,iS l];grind [uL,amB]
 rintro _ ⟨h,b,rfl,ax,o,r,D,E,F⟩;simp_all [fU,bc,bv,aD,bb,bP,ao]
theorem afA (s:aT f) (t:aT d) (v:f.length<=10000000) (w:d.length<=10000000):ae (Er (f,d,())) (λg=>∃a,g=(a,())/\aT a/\ag a=ag f*ag d/\a.length=f.length+d.length):=by
 unfold Er;dsimp only;have r:ay (ao f+ao d)=((f.length+d.length:X):Z):=(by grind [cG,bb]);rw[r,im aa,bN];refine ae.aO (P:=λg=>∃a,g=(a,())/\a.length=f.length+d.length/\aT a/\ag a=ag f*ag d) ?_ ?_
 ·refine ae.steps f.length (λb u=>∃a,u=((b:Z),a,())/\a.length=f.length+d.length/\aT a/\jg a (b+d.length)/\ag a=ag (f.take b)*ag d) ⟨_,bn,ac,alS _,jg.mb _ _,by simp[ag,qd]⟩ ?_ ?_
  ·rintro b _ m ⟨a,rfl,ax,o,p,q⟩;dsimp only;rw[a7 (aH (show(b:Z)<ao f by grind))];refine ae.aO (P:=λg=>∃e c,g=(e,c,())/\c.length=f.length+d.length/\aT c/\jg c (b+d.length)/\0<=e/\e<4294967296/\ag c+aY (b+d.length)*e=ag a+aY b*(f[b]*ag d)) (afL s m t aa aa ax o p λe c n k h i j l=>⟨e,c,bn,n,k,h,i,j,l⟩) ?_;rintro _ ⟨e,c,rfl,n,k,h,i,j,l⟩;have al:ay ((b:Z)+ao d)=((b+d.length:X):Z):=(by grind [cG,bb]);dsimp only;rw[al,lH i j,lI aa];refine bv.2 ⟨c.set (b+d.length) e,by rw[bg aa],by grind,k.set i j,?_,?_⟩
   ·rw[(aa:b+1+d.length=b+d.length+1)];exact h.set _
   rw[nk aa,h _ (bc _) aa,iS m,aop,l,q];grind
  rintro _ ⟨a,rfl,ax,o,p,q⟩;dsimp only;rw[a2 (aD (show¬((f.length:Z)<ao f) by grind))];grind [bv]
 grind [bv]
section
section
variable {α B:Type}
theorem Lo {d c e:bm α} {k:X} (g:k<c.length) (f:b=((d.length+k:X):Z)) (a:α->bu B):rd (d++(c++e)) b a=a c[k]:=by subst f;refine afe aa ?_ a;grind
theorem ahC {a c d:bm α} {k:X} (g:k<c.length) (h:b=((a.length+k:X):Z)) (f:α) (e:bm α->bu B):wr (a++(c++d)) b f e=e (a++(c.set k f++d)):=by subst h;rw[lI (by grind),B9 g]
end
theorem agR {A w C v:ala} {g:Z} (u:aT v) (x:aT w) (V:w.length=v.length+1) (O:A.length+w.length<=100000000) (H:0<=g/\g<4294967296):ae (AM (A++(w++C),v,(A.length:Z),g,())) (λd=>(ag w<g*ag v/\d=(A++(w++C),bq,()))\/(∃l,g*ag v<=ag w/\d=(A++(l++C),bp,())/\l.length=w.length/\aT l/\ag l=ag w-g*ag v)):=by
 unfold AM;dsimp only;have y:aQ (ao v)=((v.length+1:X):Z):=(by grind [bg,bb]);rw[y,im aa,bN];have R:=fe u;have Q:=fe x;refine ae.aO (P:=λd=>∃c b,d=(c,A++(w++C),b,())/\b.length=v.length+1/\aT b/\0<=c/\c<=1/\ag b-aY (v.length+1)*c=ag w-g*ag v) ?_ ?_
 ·refine ae.steps (v.length+1) (λa p=>∃c h b,p=(c,h,(a:Z),A++(w++C),b,())/\b.length=v.length+1/\aT b/\jg b a/\0<=h/\h<4294967296/\(a=v.length+1->h=0)/\0<=c/\c<=1/\ag b-aY a*(c+h)=ag (w.take a)-g*ag (v.take a)) ⟨0,0,bJ (v.length+1) 0,bn,ac,alS _,jg.mb _ _,aa,aa,λ_=>rfl,aa,aa,by simp[ag,qd]⟩ ?_ ?_
  ·rintro a _ I ⟨c,h,b,rfl,m,i,j,q,o,r,D,E,s⟩;have L:=u.getD a;have ad:=x.get (n:=a) aa;have U:=BD H L;obtain⟨f,K,am,an⟩:∃f,f=h+g*v.getD a 0/\0<=f/\f<18446744073709551616:=⟨_,bn,aa,aa⟩;obtain⟨e,S,M,N⟩:∃e,e=w[a]-c-f %4294967296/\-4294967296<=e/\e<4294967296:=⟨_,bn,aa,aa⟩;dsimp only;rw[a7 (aH (show(a:Z)<=ao v by grind))];refine ae.aO (P:=λd=>d=(-(e/4294967296),f/4294967296,A++(w++C),b.set a (e %4294967296),())) ?_ ?_
   ·refine ae.aO (P:=λd=>d=(f,A++(w++C),b,())) ?_ ?_
    ·rw[c7];refine ae.ite (λB=>?_) λB=>?_
     ·grind [fL,bv,kr,eT,bb]
     grind [bb,pQ,bv]
    rintro _ rfl;dsimp only;have al:ay ((a:Z)+(A.length:Z))=((A.length+a:X):Z):=(by grind [cG]);have z:aL (aL (aL w[a]-c)-e0 bD f 4294967295)=e %18446744073709551616:=(by grind [and_low32,sJ]);rw[Lo (k:=a) aa al,nN,bN,z,lI aa,Tz,bN,qe];refine bv.2 ?_;grind
   rintro _ rfl;dsimp only;refine bv.2 ⟨-(e/4294967296),f/4294967296,b.set a (e %4294967296),by rw[bg aa],by grind,i.set aa aa,j.set _,aa,aa,?_,aa,aa,?_⟩
   ·grind
   rw[nk aa,j a (bc _) aa,h9,iS (aa:a<w.length),zk];grind
  rintro _ ⟨c,h,b,rfl,m,i,j,q,o,r,D,E,s⟩;dsimp only;rw[a2 (aD (show¬(((v.length+1:X):Z)<=ao v) by grind))];have G:=r bn;subst G;rw[ch aa,ch aa,anH] at s;grind [bv]
 rintro _ ⟨c,b,rfl,m,i,j,q,o⟩;have J:=hm i;have T:=fe i;have K:=fZ (v.length+1);rw[m] at J;dsimp only;rw[fQ];by_cases t:c=0
 ·rw[aH t];subst t;rw[am8] at o;refine ae.aO (P:=λd=>d=(A++(b++C),())) ?_ ?_
  ·refine ae.steps (v.length+1) (λa p=>p=((a:Z),A++((b.take a++w.drop a)++C),b,())) rfl ?_ ?_
   ·rintro a _ I rfl;have al:ay ((a:Z)+(A.length:Z))=((A.length+a:X):Z):=(by grind [cG]);dsimp only;rw[a7 (aH (show(a:Z)<=ao v by grind)),iE aa,ahC (k:=a) (by grind) al,bg aa];refine bv.2 ?_;show(_,A++(List.set (b.take a++w.drop a) a b[a]++C),b,())=(_,A++((b.take (a+1)++w.drop (a+1))++C),b,());congr 4;have F:b.take (a+1)=b.take a++[b[a]]:=(by simp_all);rw[aqw _ _ (by grind),F,alD,amA aa,amm,List.drop_eq_getElem_cons (aa:a<w.length),List.set_cons_zero,amD];rfl
   rintro _ rfl;dsimp only;rw[a2 (aD (show¬(((v.length+1:X):Z)<=ao v) by grind))];grind [ch,List.drop_eq_nil_of_le,bv]
  grind [bv]
 grind [aD,bv]
theorem afh {n:X} (D:aT d) (cs:ag d=b) (ic:d.length=n+1) (f8:b<aY (n+1)) (f9:1<=d[n]) (dg:aT f) (f7:ag f=e) (co:f.length=c) (hr:c=a+(n+1)) (f5:c<=10000000) (hs:1<=a) (c2:ag (f.drop a)<b) (s:ala) (gc:s.length=n+1) {J:kA->Prop} (f6:∀l j,l.length=a->aT l->j.length=c->aT j->ag j+b*ag l=e->ag j<b->J (j,l,())):ae (loop (σ:=(Z×bi×bi×bt)) (ρ:=kA) (λ(t,E,U,_)=>
 bif br (t>=0) then
 rd E (ay (t+ao s)) λfp=>
 (it bD (aL fp) 32).bind λfr=>
 rd E (ay (ay (t+ao s)-1)) λfs=>
 (aw d (ay (ao s-1))).bind λft=>
 (kM bD (gK bD fr (aL fs)) (aL ft)).bind λan=>
 (loop (σ:=(Z×bi×bi×bt)) (ρ:=(Z×bi×bi×bt)) (λ(F,ex,V,_)=>
 (AM (ex,d,t,F,())).bind λ(R,ek,_)=>
  bif !ek then
 Y (.inl (aL (F-1),R,V,())) else
 Y (.inr (F,R,V,()))) ((if 4294967295<an then 4294967295 else an),E,U,())).bind λ(a3,fl,d8,_)=>
 wr d8 t (eD a3) λfz=>
 Y (.inl (ay (t-1),fl,fz,())) else
 Y (.inr (E,U,()))) (((a:Z)-1),f,bJ a (0:Z),())) J:=by
 have id:ag d=ag (d.take n)+aY n*d[n]:=(by grind [iS,ch]);have ib:=fe (D.take n);have ds:=hm (D.take n);rw[gu,hR aa] at ds;have d0:=D.get (n:=n) aa;have G:0<b:=(by have:=qi (fZ n) (aa:0<d[n]);omega);refine ae.steps a (λq z=>∃l j,z=(((a:X):Z)-1-q,j,l,())/\l.length=a/\aT l/\(∀i,i<a-q->(c1:i<l.length)->l[i]=0)/\j.length=c/\aT j/\ag j+b*ag l=e/\ag (j.drop (a-q))<b) ⟨bJ a 0,f,ac,ac,alS _,ac,co,dg,by grind [qd],c2⟩ ?_ ?_
 ·rintro q _ gt ⟨l,j,rfl,ax,S,T,eq,B,a4,K⟩;obtain⟨i,c1⟩:∃i,a=i+1+q:=⟨a-1-q,aa⟩;have al:((a:X):Z)-1-(q:Z)=(i:Z):=aa;rw[(aa:a-q=i+1)] at K;obtain⟨p,bl⟩:∃p,p=j.take i:=⟨_,bn⟩;obtain⟨h,N⟩:∃h,h=(j.drop i).take (n+2):=⟨_,bn⟩;obtain⟨m,bx⟩:∃m,m=j.drop (i+(n+2)):=⟨_,bn⟩;have L:p.length=i:=(by grind);have ii:h.length=n+2:=(by rw[N,gu,nT];omega);have dl:j=p++(h++m):=by
   grind [ann,anA]
  have f3:m.length=c-(i+(n+2)):=(by grind);have d7:aT p:=(by rw[bl];exact B.take i);have u:aT h:=(by rw[N];exact(B.drop i).take _);have Q:aT m:=(by rw[bx];exact B.drop _);have ge:ag (j.drop i)=ag h+aY (n+2)*ag m:=(by grind [List.drop_of_length_le,mK]);have gf:ag (j.drop i)=j[i]+4294967296*ag (j.drop (i+1)):=nj aa;have io:=B.get (n:=i) aa;have ce:=fe Q;have f4:0<=aY (n+2)*ag m:=lO (fw (fZ _)) ce;have hi:ag (j.drop i)<4294967296*b:=aa;have d1:=fe u;have ci:ag m=0:=by
   rcases iy 0 (ag m) with o|o
   ·exfalso;have:=jO (aa:1<=ag m) (fw (fZ (n+2)));grind [h9]
   omega
  have H:0<=ag h/b:=al9 d1 aa;have M:ag h/b<4294967296:=aqy G aa;have gi:=amB (ag h) b;have hv:=anJ (ag h) G;have hw:=anL (ag h) (aa:b≠0);have O:=u.get (n:=n+1) aa;have d2:=u.get (n:=n) aa;have i1:ay ((i:Z)+ao s)=((p.length+(n+1):X):Z):=(by simp only[bb];rw[cG aa aa];omega);have d3:ay (ay ((i:Z)+ao s)-1)=((p.length+n:X):Z):=(by rw[i1,cG aa aa];omega);have d4:ay (ao s-1)=((n:X):Z):=(by simp only[bb];rw[cG aa aa];omega);obtain⟨el,em⟩:=G1 (x:=h[n+1]) (y:=h[n]) O d2;obtain⟨en,ix⟩:=Gq (x:=4294967296*h[n+1]+h[n]) (y:=d[n]) ⟨aa,aa⟩ aa;have gs:ag h/b<=(4294967296*h[n+1]+h[n])/d[n]:=(by rw[aos aa];have fT:ag h=ag (h.take n)+aY n*(4294967296*h[n+1]+h[n]):=(by grind [Ha]);have ap:=hm (u.take n);rw[alD,amA aa] at ap;have f0:aY n*(ag h/b*d[n])<=ag h:=(by have f1:ag h/b*(aY n*d[n])<=ag h/b*b:=anM aa H;grind);have av:aY n*(ag h/b*d[n])<aY n*(4294967296*h[n+1]+h[n]+1):=(by grind);have:=anP av (alq (fZ n));omega);dsimp only;rw[al,a7 (aH (aa:(i:Z)>=0))]
  conv=>arg 1;rw[dl]
  rw[Lo (k:=n+1) aa i1];refine ae.bs (by rw[fL O.1 aa];exact el) ?_;rw[Lo (k:=n) aa d3];refine ae.bs (by rw[d4];exact eT aa) ?_;refine ae.bs (by rw[em,fL d0.1 aa];exact en) ?_;refine ae.aO (P:=λd9=>∃r,d9=(ag h/b,p++(r++m),l,())/\r.length=n+2/\aT r/\ag r=ag h %b) ?_ ?_
  ·have gl:0<=(4294967296*h[n+1]+h[n])/d[n]:=mT aa aa;refine alv (λz=>∃o,z=(o,p++(h++m),l,())/\ag h/b<=o/\o<4294967296) (λz=>z.1.toNat) ⟨_,bn,aa,aa⟩ ?_;rintro _ ⟨o,rfl,f2,a0⟩;have ad:=agR (A:=p) (w:=h) (C:=m) (v:=d) (g:=o) D u aa aa ⟨aa,a0⟩;rw[L] at ad;refine ae.aO ad ?_;rintro _ (⟨I,rfl⟩|⟨r,I,rfl,is,d5,d6⟩)
   ·have go:ag h/b<o:=by
     grind
    refine bv.2 ⟨⟨o-1,by rw[fL aa aa],aa,aa⟩,?_⟩;show(aL (o-1)).toNat<o.toNat;rw[fL aa aa];omega
   rw[cs] at I d6;have hc:o<=ag h/b:=(aos G).2 I;have cv:o=ag h/b:=aa;refine bv.2 ⟨r,by rw[cv],aa,d5,?_⟩;grind
  rintro _ ⟨r,rfl,i0,fn,am⟩;dsimp only;rw[lH H M,lI aa];refine bv.2 ⟨l.set i (ag h/b),p++(r++m),?_,by grind,S.set H M,?_,by simp;omega,anK.2 ⟨d7,anK.2 ⟨fn,Q⟩⟩,?_,?_⟩
  ·rw[cG aa aa];grind
  ·grind [List.getElem_set_ne]
  ·rw[nk aa,T i aa aa,mK,mK,L,am];grind [Oy,mK]
  rw[(aa:a-(q+1)=i),sU aa,rB aa,hx,mK,ci,am];omega
 rintro _ ⟨l,j,rfl,ax,S,T,eq,B,a4,K⟩;have al:¬(((a:X):Z)-1-(a:Z)>=0):=aa;simp_all [bv,amm,np,aD,bP]
end
theorem aaT {n:X} (f:aT d) (j:fc d) (t:d.length=n+1):∃c:X,c<=31/\vv (d[n],())=Y ((c:Z),())/\ag d*2^c<aY (n+1)/\2147483648*aY n<=ag d*2^c:=by
 have i:=f.get (n:=n) aa;have m:d[n]≠0:=j _ (by grind);have o:ag d=ag (d.take n)+aY n*d[n]:=(by grind [iS,ch]);have p:=fe (f.take n);have h:=hm (f.take n);rw[gu,hR aa] at h;generalize d[n]=u at*;obtain⟨a,rfl⟩:=gh i.1;have g:0<a:=aa;have r:aF a<=32:=fJ.2 aa;have q:=pE g;obtain⟨k,l⟩:=oV g;obtain⟨b,s⟩:∃b,aF a=b+1:=⟨aF a-1,aa⟩;refine⟨32-aF a,aa,?_,?_,?_⟩
 ·unfold vv;refine ai (J0 (n:=a) aa) ?_;grind [cG]
 ·have al:ag d<aY n*2^aF a:=by
   have:aY n*((a:Z)+1)<=aY n*2^aF a:=jO (by grind) (fw (fZ _));grind
  have e:ag d*2^(32-aF a)<aY n*2^aF a*2^(32-aF a):=sS al (kj _);rw[jb,<-mf,(aa:aF a+(32-aF a)=32)] at e;grind [alM,h9]
 have al:aY n*2^b<=ag d:=(by have:aY n*2^b<=aY n*(a:Z):=jO (by grind) (fw (fZ _));omega);have e:aY n*2^b*2^(32-aF a)<=ag d*2^(32-aF a):=nQ al (fw (kj _));rw[jb,<-mf,(aa:b+(32-aF a)=31)] at e;omega
theorem agQ (b:aT d) (e:a<=d.length) (f:ag d<aY a):ag (d.take a)=ag d:=by
 have g:=pj d a e;have h:=fe (b.drop a);have i:=fe (b.take a);rcases iy 0 (ag (d.drop a)) with c|c
 ·exfalso;have:=jO (aa:1<=ag (d.drop a)) (fw (fZ a));omega
 grind
theorem SB (l:aT f) (m:aT d) (I:fc f) (w:fc d) (dl:f.length<=1000000) (ds:d.length<=1000000) (co:d≠[]):Ep (f,d,())=Y (eX (ag f/ag d).toNat,eX (ag f %ag d).toNat,()):=by
 unfold Ep;refine bO.1 ?_;have C:=fe l;have O:0<ag d:=(by have:=fe m;grind [aon]);refine ae.bs (SA l m I w aa aa) ?_;dsimp only;rw[c7];refine ae.ite (λs=>?_) λs=>?_
 ·have o:ag f<ag d:=NX.1 s;refine bv.2 ?_;rw[qg C o,sR C o];show(([]:ala),f,())=(eX 0,eX (ag f).toNat,());rw[I6,<-am6 l I]
 have cs:ag d<=ag f:=Int.not_lt.1 (mt NX.2 s);obtain⟨b,D⟩:∃b,d.length=b+1:=(by simp_all [sV]);have al:ay (ao d-1)=((b:X):Z):=(by grind [cG,bb]);obtain⟨c,av,a0,a3,d5⟩:=aaT m w D;have cv:b+1<=f.length:=by
  rcases cU f.length (b+1) with j|j
  ·have:=rq l m w aa;omega
  omega
 have E:=kj c;refine ae.bs (y:=d[b]) (by grind [eT]) (ae.bs a0 ?_);refine ae.aO (Lz l aa (n:=c) aa) ?_;rintro _ ⟨p,rfl,H,G,F⟩;refine ae.aO (Lz m aa (n:=c) aa) ?_;rintro _ ⟨K,rfl,ap,dg,am⟩;rw[(aa:c/32=0),aqz] at F am;have N:ao d=((b+1:X):Z):=(by grind);dsimp only;refine ae.bs (y:=(0,b+1)) ?_ ?_
 ·rw[N,aI,wh,aI,vZ ⟨eJ _,aa⟩,aI,Lb aa];rfl
 obtain⟨h,V⟩:∃h,h=(K.take (b+1)).drop 0:=⟨_,bn⟩;have ad:h=K.take (b+1):=(by grind);have v9:aT h:=(by rw[ad];exact ap.take _);have S:ag h=ag d*2^c:=(by grind [agQ]);have an:h.length=b+1:=(by grind);have U:1<=h[b]:=by
  have u:ag h=ag (h.take b)+aY b*h[b]:=(by grind [iS,ch]);have k:=hm (v9.take b);rw[gu,hR aa] at k;have c1:=fZ b;rcases iy h[b] 1 with j|j
  ·exfalso;have:h[b]=0:=(by have:=v9.get (n:=b) aa;omega);grind
  omega
 dsimp only;rw[<-V];refine ae.bs (y:=(h,p,())) ?_ ?_
 ·grind
 obtain⟨g,T⟩:∃g,f.length+1=g+(b+1):=⟨f.length+1-(b+1),aa⟩;have M:ay (ao f-ao d)=(g:Z)-1:=(by grind [cG,bb]);have a4:aQ (ay (ao f-ao d))=((g:X):Z):=(by grind [cu]);dsimp only;refine ae.bs (y:=g) (by grind [im]) ?_;have o:ag (p.drop g)<ag d*2^c:=(by have t:=pj p g aa;have x:=fe (H.take g);rw[G] at t;have u:ag f*2^c<aY f.length*2^c:=aoq (hm l) E;have z:aY f.length=aY g*aY b:=(by grind [uL]);have k:aY g*ag (p.drop g)<aY g*(aY b*2^c):=(by grind [anO]);have v:=anP k (alq (fZ g));have bx:aY b*2^c<=aY b*2147483648:=anM (wz av) (alq (fZ _));omega);rw[M];refine ae.aO (P:=λL=>∃e i,L=(i,e,())/\e.length=g/\aT e/\i.length=f.length+1/\aT i/\ag i+ag d*2^c*ag e=ag f*2^c/\ag i<ag d*2^c) (afh v9 S an a3 U H G F T aa aa o d D λe i t x u z k v=>⟨e,i,bn,t,x,u,z,k,v⟩) ?_;rintro _ ⟨e,i,rfl,ax,d4,d6,J,k,v⟩;have c2:=fe J;have ce:ag i=2^c*(ag f-ag d*ag e):=(by grind);have Q:0<=ag f-ag d*ag e:=by
  rcases iy (ag f-ag d*ag e) 0 with j|j
  ·have:=aqB E j;omega
  omega
 have R:ag f-ag d*ag e<ag d:=(by simp_all [anP,alq,alM,ag]);have ci:ag i/2^c=ag f-ag d*ag e:=(by grind [aqC]);obtain⟨bl,f2⟩:=Gr (A:=ag f) (B:=ag d) (q:=ag e) (r:=ag f-ag d*ag e) O aa Q R;dsimp only;refine ae.bs (GH J aa) ?_;dsimp only;refine ae.aO (LA (a:=iR i) (n:=c) (L5 i) (by grind [T7]) aa) ?_;rintro _ ⟨d0,rfl,d1,d2,d3⟩;grind [L6,ae.bs,GH,bv,T7,iR]
theorem Li {x y:Z} (n:aF x.natAbs<=3000000) (o:aF y.natAbs<=3000000):qN (aN x,aN y,())=Y (aN (x+y),()):=by
 obtain⟨a,f,r⟩:=hM n;obtain⟨b,g,s⟩:=hM o;unfold qN;dsimp only;refine bO.1 ?_;refine ae.bs (uz a f aa) (ae.bs (uz b g aa) ?_);dsimp only;have u:=h5 x;have v:=h5 y;have p:(aN x).1=br (x<0):=rfl;have q:(aN y).1=br (y<0):=rfl;rw[p,q];by_cases m:(br (x<0)==br (y<0))=bp
 ·rw[a7 m];refine ae.aO (aeZ a b aa aa) ?_;rintro _ ⟨k,rfl,d,e,l⟩;refine ae.bs (rc d (by grind) e) (bv.2 ?_);grind
 rw[a2 (by grind)];have t:¬(x<0↔y<0):=(by grind);refine ae.bs (SA a b f g aa aa) ?_;dsimp only;rw[c7];refine ae.ite (λh=>?_) λh=>?_
 ·have j:=C8.1 h;have i:(aN y).2.1.length<=(aN x).2.1.length:=by
   rcases cU (aN x).2.1.length (aN y).2.1.length with c|c
   ·have:=rq a b g c;omega
   omega
  refine ae.aO (S7 a b aa i j) ?_;rintro _ ⟨k,rfl,d,e,l⟩;refine ae.bs (rc d (by grind) e) (bv.2 ?_);grind
 have j:ag (aN x).2.1<ag (aN y).2.1:=Int.not_le.1 (mt C8.2 h);have i:(aN x).2.1.length<=(aN y).2.1.length:=by
  rcases cU (aN y).2.1.length (aN x).2.1.length with c|c
  ·have:=rq b a f c;omega
  omega
 refine ae.aO (S7 b a aa i (fw j)) ?_;rintro _ ⟨k,rfl,d,e,l⟩;refine ae.bs (rc d (by grind) e) (bv.2 ?_);grind
theorem S6 (a:aF b.natAbs<=3000000) (c:aF e.natAbs<=3000000):x2 (aN b,aN e,())=Y (aN (b-e),()):=by simp_all [ai,Li,ana,Int.sub_eq_add_neg,Lw,x2]
theorem uw {x y:Z} (g:aF x.natAbs<=3000000) (h:aF y.natAbs<=3000000):pL (aN x,aN y,())=Y (aN (x*y),()):=by
 obtain⟨a,c,k⟩:=hM g;obtain⟨b,d,l⟩:=hM h;unfold pL;dsimp only;refine bO.1 ?_;refine ae.bs (uz a c aa) (ae.bs (uz b d aa) ?_);dsimp only;refine ae.aO (afA a b aa aa) ?_;rintro _ ⟨m,rfl,i,j,n⟩;refine ae.bs (rc i (by grind) j) (bv.2 ?_);dsimp only;rw[h5,h5];congr 2;show(if(!(br (x<0)==br (y<0)))=bp then _ else _)=_;rcases al8 x 0 with e|e<;>rcases al8 y 0 with f|f
 ·grind
 ·grind
 ·grind
 grind
theorem GA {n:Z} (b:-9223372036854775808<=n) (c:n<=9223372036854775807):r2 (n,())=Y (aN n,()):=by
 unfold r2;dsimp only;obtain⟨a,d,e,f⟩:∃a:Z,a=n.natAbs/\0<=a/\a<=9223372036854775808:=⟨_,bn,aa,aa⟩;refine ai (y:=(a,(bq,([],())),())) ?_ ?_
 ·rw[c7];grind [fL,cu,cG]
 dsimp only;rw[nN,bN,qe a,lH (x:=a/4294967296) aa aa];refine ai (B3 (ama.2 ⟨⟨aa,aa⟩,ama.2 ⟨⟨aa,aa⟩,alR⟩⟩) ac) ?_;grind [ag,hu]
theorem S5 {z:Z} {n:X} (a:aF z.natAbs<=3000000) (g:n<=10000000):nB (aN z,(n:Z),())=Y (aN (z*2^n),()):=by obtain⟨c,e,f⟩:=hM a;unfold nB;dsimp only;refine bO.1 ?_;refine ae.bs (sx a) ?_;dsimp only;rw[a7 (aH (aa:(n:Z)>=0))];refine ae.aO (Lz c aa (n:=n) aa) ?_;rintro _ ⟨h,rfl,d,b,i⟩;rw[h5] at b;refine ae.bs (rc d (by grind) b) (bv.2 ?_);dsimp only;congr 2;show(if br (z<0)=bp then _ else _)=_;grind
theorem afO (j:aF b.natAbs<=2900000) (q:a<=10000000) (r:0<a):nB (aN b,-(a:Z),())=Y (aN (b/2^a),()):=by
 obtain⟨f,o,p⟩:=hM (z:=b) aa;have i:=kj a;unfold nB;dsimp only;refine bO.1 ?_;refine ae.bs (sx aa) ?_;dsimp only;have al:ay (0- -(a:Z))=(a:Z):=(by grind [cG]);rw[a2 (aD (aa:¬(-(a:Z)>=0))),al];refine ae.aO (LA f aa (n:=a) aa) ?_;rintro _ ⟨u,rfl,k,e,v⟩;rw[h5] at e|-;dsimp only;refine ae.bs (rc k aa e) ?_;dsimp only;have l:(aN b).1=br (b<0):=rfl;rw[l];have s:0<=(b.natAbs:Z)/2^a:=al9 aa aa;have t:(b.natAbs:Z)/2^a<=b.natAbs:=anQ _ aa;have c:=QZ (m:=b.natAbs) i aa;refine ae.bs (y:=((bq,([],())),aN (b/2^a),())) ?_ (bv.2 bn);by_cases g:b<0
 ·rw[aH g];rw[(aa:-(b.natAbs:Z)=b)] at c;by_cases d:(b.natAbs:Z) %2^a=0
  ·grind
  rw[aH (show(b.natAbs:Z) %2^a≠0 from d)];refine ai bn ?_;dsimp only[bF];rw[b8 d] at c;refine ai (GA ab ab) ?_;dsimp only;have h:aF (-((b.natAbs:Z)/2^a)).natAbs<=3000000:=(by rw[fJ];have:=fJ.1 j;omega);rw[ca bn];refine ai (S6 h ab) ?_;grind
 grind
def H6 (b:aF c<=a) (d:aF j<=a):aF (c+j)<=a+1:=by rw[fJ,nX];have:=fJ.1 b;have:=fJ.1 d;omega
def afj {x y:Z} (o:aF x.natAbs<=3000000) (j:aF y.natAbs<=3000000) (F:0<=x) (c:y≠0):vz (aN x,aN y,())=Y (aN (x/y),aN (x %y),()):=by
 obtain⟨m,p,q⟩:=hM o;obtain⟨n,r,s⟩:=hM j;have w:(aN y).2.1≠[]:=λt=>c (vM.1 t);unfold vz;refine ai (sx o) (ai (sx j) ?_);dsimp only;refine ai (SB m n p r aa aa w) ?_;rw[h5,h5];have A:(aN x).1=bq:=aD aa;have C:(aN y).1=br (y<0):=rfl;rw[A,C];have f:0<=(x.natAbs:Z)/(y.natAbs:Z):=al9 aa aa;have g:(x.natAbs:Z)/(y.natAbs:Z)<=x.natAbs:=anQ _ aa;have h:0<=(x.natAbs:Z) %(y.natAbs:Z):=anL _ aa;have i:(x.natAbs:Z) %(y.natAbs:Z)<(y.natAbs:Z):=anJ _ aa;have d:∀a:Z,a<=x.natAbs->(eX a.toNat).length<=100000:=λa k=>zj (l:=(aN x).2.1) m q (by rw[h5];exact k);have e:∀a:Z,a<=y.natAbs->(eX a.toNat).length<=100000:=λa k=>zj (l:=(aN y).2.1) n s (by rw[h5];exact k);dsimp only;refine ai (rc (nC _) (by have:=d _ g;omega) (r8 f)) (ai (rc (nC _) (by have:=e _ (alq i);omega) (r8 h)) ?_);dsimp only;rw[b8 (ac:¬(bq=bp))];have al:(x.natAbs:Z)=x:=aa;rw[al] at*;have u:x %(y.natAbs:Z)=x %y:=by
  rcases iy y 0 with b|b
  ·rw[(aa:(y.natAbs:Z)=-y),aqD]
  rw[(aa:(y.natAbs:Z)=y)]
 rw[u] at*;have D:0<=x %y:=oE _ c;have E:x %y<y.natAbs:=Int.emod_lt x c;have z:aF (x %y).natAbs<=3000000:=(by clear f g h i d e;generalize x %y=B at*;exact cO (jU aa) j);have v:(if(!(bq==br (y<0)))=bp then-(x/(y.natAbs:Z)) else x/(y.natAbs:Z))=x/y:=by
  rcases iy y 0 with b|b
  ·rw[aH b,(aa:(y.natAbs:Z)=-y),aqE];simp
  rw[aD (aa:¬y<0),(aa:(y.natAbs:Z)=y)];simp
 rw[v];refine ai (y:=((bq,([],())),(bq,([],())),aN (x/y),aN (x %y),())) ?_ bn;refine ai (kP z) ?_;dsimp only;rw[a2 (aD ?_)];clear f g h i d e;generalize x %y=B at*;unfold fB;split;omega;split<;>omega
def SP {z:Z} {n:X} (c:aF z.natAbs<=3000000) (e:n<=10000000):AI (aN z,(n:Z),())=Y (br ((z.natAbs:Z) %2^n≠0),()):=by obtain⟨a,b,d⟩:=hM c;unfold AI;dsimp only;refine bO.1 ?_;refine ae.bs (uz a b aa) ?_;dsimp only;refine ae.aO (LA a aa (n:=n) aa) ?_;rintro _ ⟨f,rfl,g,h,i⟩;rw[h5];exact bv.2 bn
def afy {z:Z} (p:0<=z) (d:z<9223372036854775808):En (aN z,())=Y (z,bp,()):=by
 have f:aF z.natAbs<=64:=fJ.2 aa;obtain⟨b,n,o⟩:=hM (z:=z) aa;have q:(aN z).2.1.length<=2:=A4 aa;unfold En;dsimp only;refine bO.1 ?_;refine ae.bs (sx aa) ?_;dsimp only;rw[a2 (aD (show¬(ao (aN z).2.1>2) by simp only[bb];omega))];refine ae.aO (P:=λl=>l=(z,aN z,())) ?_ ?_
 ·have k:=h5 z;refine ae.steps (aN z).2.1.length (λa m=>m=(ag ((aN z).2.1.take a),(a:Z),aN z,())) rfl ?_ ?_
  ·rintro a _ c rfl;have h:=b.get c;dsimp only;rw[a7 (aH (show(a:Z)<ao (aN z).2.1 by simp only[bb];omega)),eT c,bN];have d:=fe (b.take a);have e:=hm (b.take a);rw[alD,amA aa,rx] at e;have al:ay (32*(a:Z))=((32*a:X):Z):=(by rw[cG aa aa];simp);have f:(2:Z)^(32*a)<=4294967296:=by
    rcases(aa:a=0\/a=1) with rfl|rfl<;>decide
   have j:=kj (32*a);have r:(aN z).2.1[a]*2^(32*a)<4294967296*4294967296:=(by have:=jO f h.1;omega);have g:0<=(aN z).2.1[a]*2^(32*a):=lO h.1 (fw j);rw[al,fL (x:=(aN z).2.1[a]) aa aa,p8 aa aa,aI,fP,sR g aa,nJ (32*a) d e g aa aa (aor _ _),bg aa];refine bv.2 ?_;show(_,_,aN z,())=(_,_,aN z,());rw[iS c,rx,jA (2^(32*a))]
  rintro _ rfl;dsimp only;rw[a2 (aD (show¬(((aN z).2.1.length:Z)<ao (aN z).2.1) by simp only[bb];omega)),ch (cf _),k];refine bv.2 ?_;show(((z.natAbs:X):Z),aN z,())=_;rw[(aa:((z.natAbs:X):Z)=z)]
 rintro _ rfl;have i:(aN z).1=bq:=aD aa;dsimp only;rw[i,bP,a2 (aD (aa:¬(z>9223372036854775807))),cG aa aa];exact bv.2 bn
theorem Tx (h:aF e.natAbs<=1900000) (f:-1048576<=b) (g:b<=1048576):rZ (aN e,b,())=Y (aN (rj e b),0,()):=by
 rcases iy b 0 with d|d
 ·obtain⟨a,c⟩:∃a:X,b=-(a:Z):=⟨(-b).toNat,aa⟩;subst c;grind [aga,za]
 obtain⟨a,c⟩:∃a:X,b=(a:Z):=⟨b.toNat,aa⟩;grind [agb,pg]
theorem GG (h:aF e.natAbs<=2900000) (f:-10000000<=b) (g:b<=10000000):nB (aN e,b,())=Y (aN (rj e b),()):=by
 rcases iy b 0 with d|d
 ·obtain⟨a,c⟩:∃a:X,b=-(a:Z):=⟨(-b).toNat,aa⟩;subst c;grind [afO,za]
 obtain⟨a,c⟩:∃a:X,b=(a:Z):=⟨b.toNat,aa⟩;grind [S5,pg]
def eF (a:Z):Z:=if a=0 then 0 else cW a
theorem FX:cD 0=0:=rfl
theorem hf (a:Z):aA (Y a)=(bq,aN (cD a),eF a,()):=by
 by_cases b:a=0
 ·subst b;rfl
 rw[OQ b,eF,ar b]
theorem kO (a:gz b):aF (cD b).natAbs<=131072:=by
 by_cases c:b=0
 ·subst c;exact a
 grind [yF,gz]
theorem kN (a:gz b):-65536<=eF b/\eF b<=65536:=by grind [qc,gz,cW,eF]
theorem Km (c:gz b):hh (cD b) (eF b)=Y b:=by
 by_cases a:b=0
 ·subst a;rfl
 rw[eF,ar a,aar c]
theorem aa2 (c:b=0\/e<=cW b) (g:-65536<=e):cD b*2^(eF b-e).toNat*2^(e+65536).toNat=b:=by
 by_cases a:b=0
 ·grind [FX]
 have d:=pY b;have f:=c.resolve_left a;rw[eF,ar a,jb,<-mf];grind [cW,cR]
theorem OP (z:b≠0) (v:¬(e+cR b.natAbs< -65536\/65536<e+aF b.natAbs)):aA (hh b e)=(bq,aN (b/2^cR b.natAbs),e+cR b.natAbs,())/\(hh b e).isSome=bp:=by
 obtain⟨c,s⟩:∃c,c=rj b (e+65536):=⟨_,bn⟩;have r:hh b e=Y c:=(by simp_all [ar,hh]);rw[r];refine⟨?_,bn⟩;obtain⟨h,y⟩:=uE (n:=b.natAbs) aa;have o:=(tV (n:=b.natAbs) (k:=cR b.natAbs) aa).1 (bc _);have q:b/2^cR b.natAbs*2^cR b.natAbs=b:=ET o;have A:(b/2^cR b.natAbs).natAbs=2*h+1:=(by grind [aps,am5,BF]);generalize x:cR b.natAbs=d at*;generalize w:b/2^d=j at*;have t:c=j*2^(e+d+65536).toNat:=by
  rw[s,<-q];rcases aqo 0 (e+65536) with l|l
  ·obtain⟨a,g⟩:∃a:X,e+65536=a:=⟨(e+65536).toNat,aa⟩;rw[g,pg,jb,<-mf];grind
  obtain⟨a,g⟩:∃a:X,e+65536=-(a:Z):=⟨(-(e+65536)).toNat,aa⟩;obtain⟨i,p⟩:∃i:X,d=i+a:=⟨d-a,aa⟩;rw[g,za,p,mf,<-jb,Cz _ (by have:=kj a;omega)];grind
 obtain⟨f,m⟩:∃f:X,e+d+65536=f:=⟨(e+d+65536).toNat,aa⟩;rw[m,fP] at t;have u:c.natAbs=(2*h+1)*2^f:=(by grind [i7]);have B:cR c.natAbs=f:=zh u;have C:c≠0:=(by grind);grind [Int.mul_ediv_cancel,kj,OQ,cW,cD]
theorem SN {m:Z} {n:X} (e:aF m.natAbs<=1900000) (f:n<=1048576):Af (aN m,(n:Z),())=Y (aN (m/2^n),()):=by
 unfold Af;dsimp only;refine bO.1 ?_;refine ae.aO (P:=λc=>c=((n:Z),aN m,(bq,([],())),())) ?_ ?_
 ·refine ae.steps 0 (λb a=>a=((n:Z),aN m,(bq,([],())),())) rfl (λb a d=>by omega) ?_;rintro _ rfl;dsimp only;rw[a2 (aD (aa:¬((n:Z)>1048576)))];grind [bv]
 grind [cG,aqG,ae.bs,Tx,bv,za]
theorem Bo {m k:Z} (b:aF m.natAbs<=1900000) (c:0<=k) (a:k<=1048576):oX (aN m,k,())=Y (aN (m*2^k.toNat),()):=by unfold oX;refine ai (Tx b aa a) ?_;grind [pg,ald]
theorem Q3 (p:aF e.natAbs<=900000) (m:-1000000000000<=u) (o:u<=1000000000000):oY ((bq,aN e,u,()),())=Y (aA (hh e u),(hh e u).isSome,()):=by
 obtain⟨f,k,l⟩:=hM (z:=e) aa;unfold oY;dsimp only;rw[bP];have d:=aaU (b:=aN e) f aa;rw[oy] at d;refine ai d ?_;refine ai (uB (jX aa)) ?_;dsimp only;rw[g2,c7];split
 ·rename_i a;have:e=0:=by
   grind [fB]
  subst this;rfl
 rename_i a;have c:e≠0:=(by intro u;subst u;exact a bn);have q:=qc (n:=e.natAbs) aa;refine ai (Uh (jX aa) c) ?_;dsimp only;by_cases i:u+cR e.natAbs< -65536\/65536<u+aF e.natAbs
 ·have j:hh e u=bo:=(by simp_all [ar,au,hh]);rw[j];refine ai (y:=.inr (aA bo,bq,())) ?_ bn;refine ai (y:=(bp,(bq,((bq,([],())),((0:Z),()))),aN e,())) ?_ bn;refine ai (xz (jX aa)) ?_;grind [aD,aH,cG]
 obtain⟨g,h⟩:=OP c i;rw[g,h];refine ai (y:=.inl ((bq,((bq,([],())),((0:Z),()))),aN e,())) ?_ ?_
 ·refine ai (y:=(bq,(bq,((bq,([],())),((0:Z),()))),aN e,())) ?_ bn;refine ai (xz (jX aa)) ?_;grind [aD,cG]
 refine ai (SN aa aa) ?_;grind [cG]
theorem wl (b:c4 k):oY (aA k,())=Y (aA k,k.isSome,()):=by
 cases k with
 |none=>rfl
 |some c=>
  have a:=b c bn;have d:=kO a;have e:=kN a;grind [hf,Q3,Km]
def Bw (d:aF e.natAbs<=900000) (a:-1000000000000<=b) (c:b<=1000000000000):tp (aN e,b,())=Y (aA (hh e b),()):=by unfold tp;exact ai (Q3 d a c) rfl
def EU (a:c4 k):vl (aA k,())=Y (aA k,()):=by unfold vl;exact ai (wl a) rfl
def hZ (a:eA):Z:=fB (a.getD 0)
theorem Tv (a:Z):fB (cD a)=fB a:=by
 unfold fB;have:=BH (v:=a);by_cases b:a=0
 ·subst b;rfl
 simp_all [j1,ar]
def o0 (a:c4 k):pI (aA k,())=Y (hZ k,()):=by
 unfold pI;refine ai (wl a) ?_;cases k with
 |none=>exact ai (uB (z:=0) (jX ab)) rfl
 |some b=>
  have c:=kO (a b bn);rw[hf];refine ai (uB (jX aa)) ?_;show Y (fB (cD b),())=_;rw[Tv];rfl
theorem L7 {a b:eA} (c:c4 a) (d:c4 b):xI (aA a,aA b,())=Y (aA a,aA b,a.isSome&&b.isSome,()):=by unfold xI;refine ai (wl c) (ai (wl d) ?_);grind
def bk (c d:eA):eA:=c.bind λa=>d.bind λb=>hh (cD a*cD b) (eF a+eF b)
def cM (a b:eA):eA:=a.bind λc=>b.bind λd=>n9 (c+d)
def c5 (a:eA):eA:=a.map λb=>-b
def zQ (a:eA):eA:=a.map λb=>(b.natAbs:Z)
theorem oi (b c:eA):c4 (bk b c):=by
 intro d a;unfold bk at a;cases b with
 |none=>cases a
 |some e=>cases c with
  |none=>cases a
  |some f=>exact Kn _ _ d a
theorem pC (b c:eA):c4 (cM b c):=by
 intro d a;unfold cM at a;cases b with
 |none=>cases a
 |some e=>cases c with
  |none=>cases a
  |some f=>exact WF _ d a
theorem QY (b:c4 k):c4 (c5 k):=by
 intro d a;cases k with
 |none=>cases a
 |some c=>cases a;have:=b c bn;grind [ana,gz]
def oZ (a:c4 k) (b:c4 p):mZ (aA k,aA p,())=Y (aA (bk k p),()):=by
 unfold mZ;refine ai (L7 a b) ?_;cases k with
 |none=>rfl
 |some c=>
  cases p with
  |none=>rfl
  |some d=>
   have e:=kO (a c bn);have f:=kO (b d bn);have g:=kN (a c bn);have h:=kN (b d bn);rw[hf,hf];refine ai (aaA aa aa) ?_;dsimp only;rw[cG aa aa];refine ai (Bw ?_ aa aa) rfl;rw[Int.natAbs_mul];have:=xA e f;omega
theorem KD (a:Z):cD (-a)=-cD a:=by have b:=pY a;grind [Int.eq_of_mul_eq_mul_right,Int.neg_mul,kj,ana,pY,cD,cR]
theorem Jb (a:Z):eF (-a)=eF a:=by simp_all [ar,ana,eF,cW]
theorem aa1 (a:Z):cD (a.natAbs:Z)=((cD a).natAbs:Z):=by
 have c:=BH (v:=a);rcases iy a 0 with b|b
 ·grind [KD]
 grind
theorem XW (a:Z):eF (a.natAbs:Z)=eF a:=by grind [Jb,al8]
def Xm (b:c4 k):Dg (aA k,())=Y (aA (c5 k),()):=by
 unfold Dg;refine ai (wl b) ?_;cases k with
 |none=>rfl
 |some a=>
  have c:=kO (b a bn);rw[hf];refine ai (ai (Q0 (jX aa)) rfl) ?_;show Y ((bq,aN (-cD a),eF a,()),())=Y (aA (Y (-a)),());rw[hf,KD,Jb]
def W7 (b:c4 k):Df (aA k,())=Y (aA (zQ k),()):=by
 unfold Df;refine ai (wl b) ?_;cases k with
 |none=>rfl
 |some a=>
  have c:=kO (b a bn);rw[hf];refine ai (ai (zR (jX aa)) rfl) ?_;show Y ((bq,aN ((cD a).natAbs:Z),eF a,()),())=Y (aA (Y (a.natAbs:Z)),());rw[hf,aa1,XW]
def jJ (a b:Z):Z:=cD a*2^(eF a-b).toNat
theorem Ci (a:e=0\/b<=cW e) (c:-65536<=b):jJ e b*2^(b+65536).toNat=e:=aa2 a c
def wR (a:b=0\/e<=cW b) (f:-65536<=e) (g:gz b):aF (jJ b e).natAbs<=131072:=by
 have c:=Ci a f;have d:(jJ b e).natAbs<=b.natAbs:=by
  conv=>rhs;rw[<-c,i7]
  exact Nat.le_mul_of_pos_right _ (iV _)
 exact cO (jU d) g
def JZ (c:b=0\/e<=cW b) (h:-65536<=e) (i:e<=65536) (a:gz b) (d:e<=eF b):oX (aN (cD b),eF b-e,())=Y (aN (jJ b e),()):=by have f:=kO a;have g:=kN a;exact Bo aa aa aa
theorem QH (a:-65536<=b) (c:e=0\/b<=cW e) (d:u=0\/b<=cW u):hh (jJ e b+jJ u b) b=n9 (e+u):=by grind [Int.add_mul,Ci,BB]
theorem lx (a:e<=eF b):b=0\/e<=cW b:=by
 by_cases c:b=0
 ·omega
 simp_all [ar,eF]
def MY (f:gz b) (g:gz e):∃a,a<=eF b/\a<=eF e/\-65536<=a/\a<=65536/\Ae (aA (Y b),aA (Y e),())=Y (aN (jJ b a),aN (jJ e a),a,()):=by have h:=kN f;have i:=kN g;refine⟨if eF e<eF b then eF e else eF b,aa,aa,aa,aa,?_⟩;unfold Ae;rw[hf,hf];dsimp only;generalize j:(if eF e<eF b then eF e else eF b)=a;have al:a<=eF b:=aa;have c:a<=eF e:=aa;have d:-65536<=a:=aa;rw[cG (x:=eF b-a) aa aa,cG (x:=eF e-a) aa aa];exact ai (JZ (lx al) d aa f al) (ai (JZ (lx c) d aa g c) rfl)
def Ok (e:c4 k) (b:c4 p):Ac (aA k,aA p,())=Y (aA (cM k p),()):=by
 unfold Ac;refine ai (L7 e b) ?_;cases k with
 |none=>rfl
 |some h=>
  cases p with
  |none=>rfl
  |some i=>
   have f:=e h bn;have g:=b i bn;obtain⟨c,al,d,a,n,m⟩:=MY f g;have j:=wR (lx al) a f;have l:=wR (lx d) a g;refine ai m (ai (HO aa aa) ?_);have b:aF (jJ h c+jJ i c).natAbs<=131073:=cO (jU (apx _ _)) (H6 j l);refine ai (Bw aa aa aa) ?_;rw[QH a (lx al) (lx d)];rfl
def EX (b:c4 k) (a:c4 p):vo (aA k,aA p,())=Y (aA (cM k (c5 p)),()):=by unfold vo;exact ai (Xm a) (ai (Ok b (QY a)) rfl)
theorem ag8 (c:-65536<=b) (h:e=0\/b<=cW e) (i:u=0\/b<=cW u):jJ e b<jJ u b↔e<u:=by
 have f:=Ci h c;have g:=Ci i c;have d:=kj (b+65536).toNat;constructor
 ·intro a;have:=sS a d;omega
 intro a;rw[<-f,<-g] at a;exact Int.lt_of_mul_lt_mul_right a (fw d)
theorem IV (d:gz e) (f:gz u):xG (aA (Y e),aA (Y u),())=Y (gb e u,bp,()):=by unfold xG;refine ai (L7 (a:=Y e) (b:=Y u) (λj i=>by grind) (λj i=>by grind)) ?_;obtain⟨m,al,g,c,n,h⟩:=MY d f;have k:=wR (lx al) c d;have l:=wR (lx g) c f;refine ai h (ai (NY aa aa) ?_);grind [ag8,lx,gb]
def jm (a:Z):eA:=hh a 0
def vF (a:-9223372036854775808<=b) (c:b<=9223372036854775807):pH (b,())=Y (aA (jm b),()):=by unfold pH;have d:aF b.natAbs<=64:=fJ.2 aa;exact ai (Fl a c) (ai (Bw aa ab ab) rfl)
def jI:er->Z
 |[]=>0
 |d::a=>d.getD 0+jI a
def lV:er->bz
 |[]=>bp
 |d::a=>d.isSome&&lV a
def sF (a:er):eA:=if lV a=bp then n9 (jI a) else bo
theorem T4 (a b:er):jI (a++b)=jI a+jI b:=by
 induction a with
 |nil=>simp[jI]
 |cons d a c=>grind [jI]
theorem VI (a b:er):lV (a++b)=(lV a&&lV b):=by
 induction a with
 |nil=>simp[lV]
 |cons d a c=>grind [Bool.and_assoc,lV]
def agX (b:a<w.length):jI (w.take (a+1))=jI (w.take a)+(w[a]).getD 0:=by rw[jP,cE b];show jI (w.take a++[w[a]])=_;rw[T4];simp[jI]
theorem VK (b:a<w.length):lV (w.take (a+1))=(lV (w.take a)&&(w[a]).isSome):=by grind [VI,ali,bX,lV]
theorem M0 (b:lV w=bp) (d:a<w.length):∃c,w[a]=Y c:=by
 induction w generalizing a with
 |nil=>grind
 |cons f w e=>
  simp only[lV,cF] at b;cases a with
  |zero=>grind [Option.isSome_iff_exists]
  |succ a=>simp_all
theorem VJ (b:a<w.length) (c:w[a]=bo):lV w=bq:=by grind [M0]
def Xp (A:∀B∈w,c4 B) (L:w.length<=1000000):Dk (w.map aA,())=Y (aA (sF w),()):=by
 unfold Dk;refine bO.1 ?_;dsimp only;refine ae.aO (P:=λr=>match r with
  |.inl o=>∃b,o=(b,(bq,((bq,([],())),((0:Z),()))),w.map aA,())/\lV w=bp/\-65536<=b/\b<=0/\(∀a d,(C:a<w.length)->w[a]=Y d->b<=eF d)
  |.inr o=>o=(aA (sF w),())) ?_ ?_
 ·refine ae.steps w.length (λa u=>∃b,u=(b,(a:Z),(bq,((bq,([],())),((0:Z),()))),(w.take a).map aA,())/\lV (w.take a)=bp/\-65536<=b/\b<=0/\(∀h d,(C:h<w.length)->h<a->w[h]=Y d->b<=eF d)) ⟨0,bn,bn,ab,ab,λh d f g=>by omega⟩ ?_ ?_
  ·rintro a _ e ⟨b,rfl,f,g,s,l⟩;have z:=A w[a] (b6 e);dsimp only;rw[a7 (aH (show(a:Z)<ao (w.map aA) by simp only[bb,b9];omega))];refine ae.bs (y:=aA w[a]) ?_ (ae.bs (wl z) ?_)
   ·rw[eT (by simpa using e),lR]
   dsimp only;cases m:w[a] with
   |none=>
    refine ae.bs bn (bv.2 ?_);show(aA bo,())=_;rw[sF,ar];rw[VJ e m];simp
   |some d=>
    have n:gz d:=z d m;have I:=kN n;show ae ((cN _).bind _) _;rw[e3 (by simp;omega)];refine bv.2 ⟨if eF d<b then eF d else b,?_,?_,by split<;>omega,by split<;>omega,?_⟩
    ·rw[bg aa,jP,cE e,m];simp only[Option.toList_some,jC,gL,uT,hf]
    ·rw[VK e,f,m];rfl
    intro h K J N t;rcases cU h a with v|v
    ·have:=l h K J v t;split<;>omega
    obtain rfl:h=a:=aa;rw[m] at t;cases t;split<;>omega
  rintro _ ⟨b,rfl,f,g,s,l⟩;dsimp only;rw[a2 (aD (show¬((w.length:Z)<ao (w.map aA)) by simp only[bb,b9];omega))];rw[ch (cf _)] at f|-;exact bv.2 ⟨b,bn,f,g,s,λa d e j=>l a d e e j⟩
 rintro(r|r) q
 ·obtain⟨b,rfl,f,g,s,l⟩:=q;dsimp only;refine ae.aO (P:=λo=>∃c,o=((bq,((bq,([],())),((0:Z),()))),aN c,())/\c*2^(b+65536).toNat=jI w/\aF c.natAbs<=200000) ?_ ?_
  ·have x:∀c:Z,c.natAbs<=w.length*2^131072->aF c.natAbs<=200000:=λc G=>by
    refine cO (jU G) ?_;have:aF w.length<=20:=fJ.2 aa;have D:aF (2^131072)<=131073:=fJ.2 (yN 131072 131073 ab);have:=xA this D;omega
   refine ae.steps w.length (λa u=>∃c,u=((a:Z),(bq,((bq,([],())),((0:Z),()))),w.map aA,aN c,())/\c*2^(b+65536).toNat=jI (w.take a)/\c.natAbs<=a*2^131072) ⟨0,bn,by rw[nm];simp[jI],(eJ _:(0:X)<=_)⟩ ?_ ?_
   ·rintro a _ e ⟨c,rfl,i,k⟩;obtain⟨d,j⟩:=M0 f e;have n:gz d:=A w[a] (b6 e) d j;have p:=l a d e j;have H:=wR (lx p) g n;have I:=kN n;have M:=x c (cx k (Nat.mul_le_mul_right _ aa));dsimp only;rw[a7 (aH (show(a:Z)<ao (w.map aA) by simp only[bb,b9];omega)),iE (by simpa using e),anb,j,hf];dsimp only;rw[cG aa aa];refine ae.bs (JZ (lx p) g aa n p) (ae.bs (HO aa aa) (bv.2 ⟨c+jJ d b,by rw[bg aa],?_,?_⟩))
    ·rw[Int.add_mul,i,Ci (lx p) g,agX e,j];rfl
    have E:=fJ.1 H;have F:=apx c (jJ d b);exact cO F (aaB k E)
   rintro _ ⟨c,rfl,i,k⟩;dsimp only;rw[a2 (aD (show¬((w.length:Z)<ao (w.map aA)) by simp only[bb,b9];omega))];rw[ch (cf _)] at i;exact bv.2 ⟨c,bn,i,x c k⟩
  rintro _ ⟨c,rfl,i,k⟩;refine ae.bs (Bw aa aa aa) (bv.2 ?_);show(aA (hh c b),())=_;rw[BB g i.symm,sF,au f]
 have q:r=_:=q;rw[q];exact bv.2 bn
theorem lg:(fB b==0)=br (b=0):=by rw[g2,cB];unfold fB;omega
theorem Lp {m:Z} {n:X} (e:aF m.natAbs<=1900000) (f:n<=1048576):x6 (aN m,(n:Z),())=Y (aN (m/2^n),()):=by
 unfold x6;dsimp only;refine bO.1 ?_;refine ae.aO (P:=λc=>c=((n:Z),aN m,(bq,([],())),())) ?_ ?_
 ·refine ae.steps 0 (λb a=>a=((n:Z),aN m,(bq,([],())),())) rfl (λb a d=>by omega) ?_;rintro _ rfl;dsimp only;rw[a2 (aD (aa:¬((n:Z)>1048576)))];grind [bv]
 grind [cG,aqG,ae.bs,GG,bv,za]
theorem SQ {b:oz} {m:Z} (d:aT b.2.1) (s:b.2.1.length<=100000000) (h:hu b=m) (E:aF m.natAbs<=900000) (w:-1000000000000<=e) (z:e<=1000000000000):oa (b,e,())=Y (aA (hh m e),()):=by
 unfold oa;dsimp only;have g:=SW d s;rw[h] at g;refine ai g ?_;dsimp only;rw[ua,c7];split
 ·rename_i a;have:=vM.1 a;subst this;rfl
 rename_i a;have f:m≠0:=λe=>a (vM.2 e);have F:=qc (n:=m.natAbs) aa;have D:=pE (m:=m.natAbs) aa;rw[c7];split
 ·rename_i i;have c:hh m e=bo:=(by unfold hh;grind);rw[c];rfl
 rename_i i;refine ai (S8 aa f) (ai (Gs aa) (ai (Lp (m:=(m.natAbs:Z)) (by grind) aa) ?_));have r:=(tV (n:=m.natAbs) (k:=cR m.natAbs) aa).1 (cf _);have p:(m.natAbs:Z)/2^cR m.natAbs=(((m/2^cR m.natAbs).natAbs:X):Z):=(by grind [BF,yS,apy]);have o:aF ((m/2^cR m.natAbs).natAbs)=aF m.natAbs-cR m.natAbs:=(by rw[BF r,C2]);rw[p];dsimp only;rw[cG (x:=e+(cR m.natAbs:Z)) aa aa];by_cases q:e+cR m.natAbs< -65536\/65536<e+aF m.natAbs
 ·have c:hh m e=bo:=(by simp_all [ar,au,hh]);rw[c];refine ai (y:=.inr (aA bo,())) ?_ bn;refine ai (y:=(bp,(bq,((bq,([],())),((0:Z),()))),aN ((m/2^cR m.natAbs).natAbs:Z),())) ?_ bn;by_cases j:e+(cR m.natAbs:Z)< -65536
  ·grind
  rw[aD j];refine ai (Lk (by grind)) ?_;rw[aqH,o];dsimp only;rw[cG aa aa,aH (aa:e+(cR m.natAbs:Z)+((aF m.natAbs-cR m.natAbs:X):Z)>65536)]
 obtain⟨l,A⟩:=OP f q;rw[l];refine ai (y:=.inl ((bq,((bq,([],())),((0:Z),()))),aN ((m/2^cR m.natAbs).natAbs:Z),())) ?_ ?_
 ·refine ai (y:=(bq,(bq,((bq,([],())),((0:Z),()))),aN ((m/2^cR m.natAbs).natAbs:Z),())) ?_ bn;rw[aD (aa:¬(e+(cR m.natAbs:Z)< -65536))];refine ai (Lk (by grind)) ?_;grind [cG,aD,aqH]
 dsimp only;congr 3;have t:b.1=br (m/2^cR m.natAbs<0):=(by have B:(m/2^cR m.natAbs<0)↔m<0:=BH (v:=m);have C:b.1=br (m<0):=(by have u:=fe d;unfold hu at h;grind);grind);rw[t];rfl
def yZ {e:Z} (d:aF b.natAbs<=900000) (a:-1000000000000<=e) (c:e<=1000000000000):oa (aN b,e,())=Y (aA (hh b e),()):=
 SQ (m2 b) (by have:=(hM (z:=b) aa).2.2;omega) (oy b) d a c
def q8 {d:eA} (c:c4 d):m1 (aA d,())=Y (aA d,()):=by
 cases d with
 |none=>rfl
 |some b=>
  have a:=c b bn;have f:=kO a;have g:=kN a;unfold m1;rw[hf];refine ai (yZ (e:=eF b) aa aa aa) ?_;rw[Km a,hf]
theorem A3 (a:eA):(aA a).1=!a.isSome:=by
 cases a with
 |none=>rfl
 |some b=>rw[hf];rfl
def Lq (a:c4 k):AO (aA k,())=Y (hZ k,()):=by
 unfold AO;refine ai (q8 a) ?_;cases k with
 |none=>rfl
 |some b=>
  have c:=kO (a b bn);rw[hf];refine ai (kP aa) ?_;show Y (fB (cD b),())=_;rw[Tv];rfl
theorem afl (b:c4 k):IQ (aA k,())=Y (aA (c5 k),()):=by
 unfold IQ;refine ai (q8 b) ?_;cases k with
 |none=>rfl
 |some a=>
  have c:=b a bn;have f:=kO c;have g:=kN c;rw[hf];refine ai (Lw aa) (ai (yZ (e:=eF a) (by grind) aa aa) ?_);have d:gz (-a):=(by grind [ana,gz]);rw[<-KD,<-Jb,Km d];rfl
theorem Ui (a:Z):jJ 0 a=0:=by unfold jJ;rw[FX,nm]
theorem G5 (a:Z):jJ a (eF a)=cD a:=by grind [jJ]
theorem Q6:cD b=0↔b=0:=by
 constructor
 ·grind [j1]
 rintro rfl;rfl
theorem VG (g:gz b) (h:gz e):∃a,(b=0\/a<=cW b)/\(e=0\/a<=cW e)/\-65536<=a/\a<=65536/\x5 (aA (Y b),aA (Y e),())=Y (aN (jJ b a),aN (jJ e a),a,()):=by
 have k:=kN g;have l:=kN h;have i:=kO g;have j:=kO h;by_cases c:b=0
 ·subst c;refine⟨eF e,.inl bn,lx (am3 _),aa,aa,?_⟩;unfold x5;rw[hf,hf];refine ai (kP aa) ?_;grind [lg,aH,Ui,G5]
 by_cases d:e=0
 ·subst d;refine⟨eF b,lx (am3 _),.inl bn,aa,aa,?_⟩;unfold x5;rw[hf,hf];refine ai (kP aa) ?_;dsimp only;rw[lg,aD (j1 c)];refine ai (kP aa) ?_;grind [lg,aH,Ui,G5]
 by_cases f:eF b>eF e
 ·refine⟨eF e,lx aa,lx (am3 _),aa,aa,?_⟩;unfold x5;rw[hf,hf];refine ai (kP aa) ?_;dsimp only;rw[lg,aD (j1 c)];refine ai (kP aa) ?_;dsimp only;rw[lg,aD (j1 d),aH f,cG aa aa,G5];refine ai (GG aa aa aa) ?_;grind [pg,jJ,eF]
 refine⟨eF b,lx (am3 _),lx aa,aa,aa,?_⟩;unfold x5;rw[hf,hf];refine ai (kP aa) ?_;dsimp only;rw[lg,aD (j1 c)];refine ai (kP aa) ?_;dsimp only;rw[lg,aD (j1 d),aD f,cG (x:=eF e-eF b) aa aa,G5];refine ai (GG aa aa aa) ?_;grind [pg,jJ,eF]
theorem aff (h:c4 k) (f:c4 p):IN (aA k,aA p,())=Y (aA (cM k p),()):=by
 unfold IN;refine ai (q8 h) (ai (q8 f) ?_);cases k with
 |none=>rfl
 |some a=>
  cases p with
  |none=>dsimp only;rw[hf a];rfl
  |some c=>
   have i:=h a bn;have j:=f c bn;obtain⟨b,al,g,d,o,n⟩:=VG i j;have l:=wR al d i;have m:=wR g d j;refine ai (y:=.inl (aA (Y a),aA (Y c),(bq,((bq,([],())),((0:Z),()))),())) ?_ ?_
   ·grind [A3]
   dsimp only;refine ai n (ai (Li aa aa) ?_);have f:aF (jJ a b+jJ c b).natAbs<=131073:=cx (jU (apx _ _)) (H6 l m);refine ai (yZ (e:=b) aa aa aa) ?_;rw[QH d al g];rfl
def afm (b:c4 k) (a:c4 p):IR (aA k,aA p,())=Y (aA (cM k (c5 p)),()):=by unfold IR;exact ai (afl a) (ai (aff b (QY a)) rfl)
def afk (a:c4 k) (b:c4 p):IP (aA k,aA p,())=Y (aA (bk k p),()):=by
 unfold IP;refine ai (q8 a) (ai (q8 b) ?_);cases k with
 |none=>rfl
 |some c=>
  cases p with
  |none=>dsimp only;rw[hf c];rfl
  |some d=>
   have e:=kO (a c bn);have f:=kO (b d bn);have g:=kN (a c bn);have h:=kN (b d bn);rw[hf,hf];refine ai bn ?_;dsimp only;refine ai (uw aa aa) ?_;dsimp only;rw[cG aa aa];refine ai (yZ ?_ aa aa) rfl;rw[Int.natAbs_mul];have:=xA e f;omega
def afg (a:-9223372036854775808<=b) (c:b<=9223372036854775807):AN (b,())=Y (aA (jm b),()):=by unfold AN;have d:aF b.natAbs<=64:=fJ.2 aa;exact ai (GA a c) (ai (yZ aa ab ab) rfl)
def bh (a:Z):Z:=a/4503599627370496 %2048
def gw (a:Z):Z:=a %4503599627370496
def fh (a:Z):Prop:=0<=a/\a<18446744073709551616
def aP (a:Z):eA:=
 if bh a=2047 then bo
 else hh (if a<9223372036854775808 then if bh a=0 then gw a else gw a+4503599627370496 else-(if bh a=0 then gw a else gw a+4503599627370496)) (if bh a=0 then-1074 else bh a-1075)
theorem kv (b:Z):c4 (aP b):=by
 intro c a;unfold aP at a;split at a
 ·cases a
 exact Kn _ _ c a
def K7 (a:fh b):xK (b,())=Y (bh b,gw b,()):=by unfold xK;dsimp only;have c:=a.1;have d:=a.2;rw[zb ab ab,bN,show(2:Z)^(52:Z).toNat=4503599627370496 from rfl,ta 11 aa aa 2047 ab ab,ta 52 aa aa 4503599627370495 ab ab,cG aa aa];rfl
theorem Nw (g:fh b):(e0 bD b 9223372036854775808 !=0)=br (9223372036854775808<=b):=by
 obtain⟨c,j⟩:=g;obtain⟨a,rfl⟩:=gh c;have f:a<18446744073709551616:=aa;have d:(9223372036854775808:Z)=((2^63:X):Z):=rfl;rw[d,M4 f ab,fQ];rcases cU a (2^63) with e|e
 ·have h:a&&&2^63=0:=by
   refine aqq λk=>?_;rw[aqr,apf,Nat.zero_testBit];grind
  grind
 have h:a&&&2^63≠0:=(by intro i;have c:(a&&&2^63).testBit 63=bq:=(by grind);grind);grind
theorem aaG (a:fh b):Do (b,())=Y (br (9223372036854775808<=b),()):=by grind [Nw,Do]
theorem FC (a:fh b):pJ (b,())=Y (!br (bh b=2047),()):=by simp_all [fQ,ai,K7,pJ]
def kt (a:Z):Z:=if bh a=2047 then if gw a=0 then 2 else 3 else if bh a=0/\gw a=0 then 0 else 1
theorem Zu (a:fh b):Dl (b,())=Y (kt b,()):=by unfold Dl kt;refine ai (K7 a) ?_;grind
theorem yf (a:Z):0<=gw a/\gw a<4503599627370496:=by grind [gw]
theorem A6 (a:Z):0<=bh a/\bh a<2048:=by grind [bh]
theorem q4 (g:fh b):kZ (b,())=Y (aA (aP b),()):=by
 unfold kZ aP;have o:=yf b;have n:=A6 b;refine ai (K7 g) ?_;dsimp only;rw[g2,g2];by_cases e:bh b=2047
 ·rw[aH e,au e];rfl
 rw[aD e,ar e];obtain⟨a,d,h,i,j,k,l,f⟩:∃a d,(bif br (bh b=0) then some (Sum.inl ((-1074:Z),gw b,((false,((false,([],())),((0:Z),()))):e2),())) else some (.inl (ay (bh b-1075),gK bD (gw b) 4503599627370496,(false,((false,([],())),((0:Z),()))),())):bu ((Z×Z×e2×bt)⊕gr))=some (.inl (d,a,(false,((false,([],())),((0:Z),()))),()))/\0<=a/\a<9007199254740992/\-1074<=d/\d<=972/\(a=(if bh b=0 then gw b else gw b+4503599627370496)/\d=(if bh b=0 then-1074 else bh b-1075)):=by
  by_cases c:bh b=0
  ·refine⟨gw b,-1074,?_,aa,aa,aa,aa,by rw[au c],by rw[au c]⟩;grind
  refine⟨gw b+4503599627370496,bh b-1075,?_,aa,aa,aa,aa,by rw[ar c],by rw[ar c]⟩;rw[aD c,cG aa aa,nJ 52 aa aa aa aa aa ab];rfl
 rw[<-f.1,<-f.2];refine ai h ?_;dsimp only;rw[cG aa aa];have m:aF a.natAbs<=53:=fJ.2 aa;refine ai (Fl aa aa) ?_;refine ai (y:=((bq,((bq,([],())),((0:Z),()))),aN (if b<9223372036854775808 then a else-a),())) ?_ ?_
 ·refine ai (aaG g) ?_;dsimp only;by_cases c:b<9223372036854775808
  ·grind
  rw[aH (aa:9223372036854775808<=b),ar c];exact ai (Q0 (jX aa)) rfl
 dsimp only;refine ai (Bw ?_ aa aa) rfl;grind
def pN (d:bz) (a:X) (b:Z) (c:bz):xn:=(d,aN (a:Z),b,c,())
theorem q1 (a:X):(a:Z).natAbs=a:=by omega
theorem Z0 (e:aF a<=900000) (c:-10000000<=b) (d:b<=10000000):Di (pN l a b h,())=Y (b+aF a-1,()):=by unfold Di pN;refine ai (xz (jX (by grind))) ?_;grind [cG,q1]
theorem W6 (o:aF a<=900000) (u:0<a) (B:0<c) (C:c<=10000000):Ad (pN l a b h,(c:Z),())=Y (aN ((a/2^c:X):Z),lZ a c h,br (a %2^c=0)&&!h,()):=by
 unfold Ad pN;refine ai (xz (jX (by grind))) ?_;rw[q1];dsimp only;have D:=am5 c;rw[c7];split
 ·rename_i q;have r:a<2^(c-1):=fJ.1 aa;obtain⟨d,rfl⟩:∃d,c=d+1:=⟨c-1,aa⟩;simp only[apv] at r;have al:a %2^(d+1)=a:=Nat.mod_eq_of_lt aa;have g:a/2^(d+1)=0:=aot aa;rw[al,g];have i:lZ a (d+1) h=-1:=(by unfold lZ;omega);rw[i,aD (aa:¬a=0)];rfl
 rename_i q;have w:=aob a (2^c);have E:aF (a/2^c)<=900000:=cx (jU (aou _ _)) o;have F:aF (a %2^c)<=900000:=cx (jU (Nat.mod_le _ _)) o;have s:a/2^c*2^c<=a:=Nat.div_mul_le_self _ _;refine ai (SN (m:=(a:Z)) (n:=c) (by grind) aa) ?_;have al:(a:Z)/2^c=((a/2^c:X):Z):=(by grind);rw[al];refine ai (Bo (m:=((a/2^c:X):Z)) (k:=(c:Z)) (by grind) aa aa) ?_;have g:((a/2^c:X):Z)*2^(c:Z).toNat=((a/2^c*2^c:X):Z):=(by grind);rw[g];refine ai (agE (x:=(a:Z)) (y:=((a/2^c*2^c:X):Z)) (by grind) (by rw[q1];exact cx (jU s) aa)) ?_;have i:(a:Z)-((a/2^c*2^c:X):Z)=((a %2^c:X):Z):=(by grind);rw[i];refine ai (Fl (n:=1) ab ab) ?_;dsimp only;rw[cG (x:=(c:Z)-1) aa aa];refine ai (Bo (m:=1) (k:=(c:Z)-1) ab aa aa) ?_;obtain⟨d,rfl⟩:∃d,c=d+1:=⟨c-1,aa⟩;have p:(1:Z)*2^(((d+1:X):Z)-1).toNat=((2^d:X):Z):=(by grind);rw[p];have A:aF (2^d)<=900000:=(by have:aF (2^d)<=d+1:=fJ.2 (aqn ab aa);omega);refine ai (NY (x:=((a %2^(d+1):X):Z)) (y:=((2^d:X):Z)) (by grind) (by grind)) ?_;dsimp only;have v:(if gb ((a %2^(d+1):X):Z) ((2^d:X):Z)=0/\h=bp then 1 else gb ((a %2^(d+1):X):Z) ((2^d:X):Z))=lZ a (d+1) h:=by
  unfold lZ gb;have t:2^(d+1)=2*2^d:=aa;generalize a %2^(d+1)=f at*;rw[t];generalize 2^d=e at*;rcases sY f e with j|j|j
  ·rw[au (aa:(f:Z)<(e:Z)),ar ac,au aa]
  ·grind
  rw[ar (aa:¬((f:Z)<(e:Z))),au (aa:(e:Z)<(f:Z)),ar ac,ar aa,au aa]
 refine ai (y:=(lZ a (d+1) h,aN ((a/2^(d+1):X):Z),aN ((a %2^(d+1):X):Z),())) ?_ ?_
 ·grind
 refine ai (uB (z:=((a %2^(d+1):X):Z)) (jX (by grind))) ?_;grind [aD,aH,lg]
theorem BI {n:X}:(n≠0/\cR n=0)↔n %2=1:=by
 constructor
 ·rintro⟨b,c⟩;have:=tV (n:=n) (k:=1) aa;omega
 intro a;refine⟨aa,?_⟩;have:=tV (n:=n) (k:=1) aa;omega
theorem aaC (m:aF a<=900000) (w:0<a) (G:-1000000<=b-e) (H:b-e<=1000000):Dj (pN l a b h,e,u,())=Y (aN (if l then-((if e<=b then a*2^(b-e).toNat else hF l a (e-b).toNat h u:X):Z) else((if e<=b then a*2^(b-e).toNat else hF l a (e-b).toNat h u:X):Z)),()):=by
 unfold Dj;have k:∀d:X,aF d<=2000000->(bB (α:=mr) (
  bif l then
 (tv (aN (d:Z),())).bind λ(E,_)=>
 Y (((bq,([],())):eW),E,()) else
 Y ((bq,([],())),aN (d:Z),())) λ(_,D,_)=>
 Y (D,()))=Y (aN (if l then-(d:Z) else(d:Z)),()):=λd J=>by
  cases l
  ·rfl
  refine ai (y:=((bq,([],())),aN (-(d:Z)),())) ?_ bn;have I:Fit (d:Z)\/True:=.inr trivial;have o:=hM (z:=(d:Z)) (by grind);refine ai (y:=(aN (-(d:Z)),())) ?_ bn;unfold tv;refine ai (z8 (by have:=o.2.2;omega)) (ai (xx (m2 _) (by have:=o.2.2;omega)) ?_);grind [oy,G8]
 by_cases i:e<=b
 ·rw[au i];obtain⟨c,f⟩:∃c:X,b-e=c:=⟨(b-e).toNat,aa⟩;rw[f,fP];refine ai (y:=((-1:Z),bp,(bq,([],())),aN ((a*2^c:X):Z),())) ?_ ?_
  ·show(bif br (e<=b) then _ else _)=_;rw[aH i];refine ai (y:=(aN ((a*2^c:X):Z),())) ?_ bn;show oX (aN (a:Z),ay (b-e),())=_;rw[cG aa aa,Bo (by grind [q1]) aa aa,f,fP,qj,yS]
  refine ai bn (ai bn ?_);exact k _ (cO H7 aa)
 rw[ar i];obtain⟨c,f⟩:∃c:X,e-b=c:=⟨(e-b).toNat,aa⟩;rw[f,fP];refine ai (y:=(lZ a c h,br (a %2^c=0)&&!h,(bq,([],())),aN ((a/2^c:X):Z),())) ?_ ?_
 ·show(bif br (e<=b) then _ else _)=_;rw[aD i];refine ai (y:=(aN ((a/2^c:X):Z),lZ a c h,br (a %2^c=0)&&!h,())) ?_ bn;show Ad (pN l a b h,ay (e-b),())=_;rw[cG aa aa,f];exact W6 m w aa aa
 have A:aF (a/2^c)<=900000:=cO (jU (aou _ _)) m;refine ai (y:=(!(br (a %2^c=0)&&!h)&&uF l (lZ a c h) (br (a/2^c %2=1)) u,(bq,([],())),aN ((a/2^c:X):Z),())) ?_ ?_
 ·dsimp only;cases q:(br (a %2^c=0)&&!h) with
  |true=>rfl
  |false=>
   show(bif u==1 then Y (l,_,_,()) else _)=_;unfold uF;rw[g2,g2,g2];by_cases r:u=1
   ·grind
   rw[aD r,ar r];by_cases j:u=2
   ·rw[aH j,au j];rfl
   rw[aD j,ar j];by_cases s:u=3
   ·grind
   rw[aD s,ar s];generalize lZ a c h=g;show(bif br (g>0)==bq then _ else _)=_;by_cases v:g>0
   ·grind
   rw[aD v];show(bif (g==0)==bp then _ else _)=_;rw[g2];by_cases t:g=0
   ·rw[aH t];refine ai (uB (z:=((a/2^c:X):Z)) (jX (by grind [q1]))) ?_;dsimp only;have K:=BI (n:=a/2^c);rw[fQ];by_cases F:a/2^c=0
    ·rw[aH (show fB ((a/2^c:X):Z)=0 by rw[F];rfl),aD (aa:¬(a/2^c %2=1))];rfl
    have B:fB ((a/2^c:X):Z)≠0:=(by unfold fB;omega);rw[aD B];refine ai (Uh (z:=((a/2^c:X):Z)) (jX (by grind [q1])) aa) ?_;rw[q1];simp_all [aD,aH,g2,cR]
   grind
 dsimp only;refine ai (y:=((bq,([],())),aN ((hF l a c h u:X):Z),())) ?_ ?_
 ·unfold hF;by_cases q:a %2^c=0/\h=bq
  ·simp_all
  have C:(br (a %2^c=0)&&!h)=bq:=(by grind);rw[ar q,C];by_cases p:uF l (lZ a c h) (br (a/2^c %2=1)) u=bp
  ·rw[au p,p];refine ai (Fl (n:=1) ab ab) ?_;refine ai (HO (x:=((a/2^c:X):Z)) (y:=1) (by grind [q1]) ab) ?_;rfl
  simp_all
 refine k _ ?_;have:hF l a c h u<=a/2^c+1:=(by unfold hF;grind);exact cO (jU this) (cO (H6 A (ab:aF 1<=900000)) aa)
def Cc (a:0<=b) (c:b<9223372036854775808):vp (b,h,())=Y (jH h b,()):=by
 unfold vp jH;cases h
 ·rfl
 dsimp only;rw[nJ 63 a (by exact c) ab aa ab ab,aoo];rfl
theorem R3:Dp (h,b,())=Y (q5 h b,()):=by
 unfold Dp q5;dsimp only;refine ai (y:=if(b=3\/(b=1/\h=bq)\/(b=2/\h=bp)) then .inr (jH h 9218868437227405311,()) else .inl ()) ?_ ?_
 ·refine ai (y:=(br (b=3\/(b=1/\h=bq)\/(b=2/\h=bp)),())) ?_ ?_
  ·rw[g2,g2,g2];by_cases e:b=3
   ·grind
   by_cases c:b=1
   ·grind
   by_cases d:b=2
   ·simp_all
   grind
  dsimp only;by_cases a:(b=3\/(b=1/\h=bq)\/(b=2/\h=bp))
  ·rw[aH a,au a];exact ai (Cc ab ab) rfl
  grind
 by_cases a:(b=3\/(b=1/\h=bq)\/(b=2/\h=bp))
 ·rw[au a,au a]
 rw[ar a,ar a];exact ai (Cc ab ab) rfl
theorem zi {neg q0:bz} {e qZ:Z} (d:0<a):(if c8 a e<=e then a*2^(e-c8 a e).toNat else hF neg a (c8 a e-e).toNat q0 qZ)<=9007199254740992:=by
 have f:=fJ.1 (bc (aF a));have h:=pE d;have i:e+aF a-53<=c8 a e:=(by grind [c8]);split
 ·rename_i c;have b:a*2^(e-c8 a e).toNat<2^aF a*2^(e-c8 a e).toNat:=Nat.mul_lt_mul_of_pos_right f (iV _);rw[<-hy] at b;have g:2^(aF a+(e-c8 a e).toNat)<=2^53:=rJ ab aa;omega
 rename_i c;have b:a/2^(c8 a e-e).toNat<2^53:=(by rw[aoa (iV _),<-hy];grind [Nat.lt_of_lt_of_le,Nat.pow_le_pow_right]);grind [hF]
theorem S3 (r:aF a<=800000) (i:0<a) (p:-500000<=b) (q:b<=500000):Ag (pN h a b l,u,())=Y (la h a b l u,()):=by
 have s:=pE i;have t:=zi (neg:=h) (q0:=l) (qZ:=u) (e:=b) i;have n:la h a b l u=k7 h (if c8 a b<=b then a*2^(b-c8 a b).toNat else hF h a (c8 a b-b).toNat l u) (c8 a b) u:=(by grind [la]);have o:c8 a b=if(-1074:Z)>b+aF a-1-52 then-1074 else b+aF a-1-52:=by grind [c8]
 have w:-1074<=c8 a b:=aa;have A:c8 a b<=1400000:=aa;unfold Ag;refine ai (Z0 aa aa aa) ?_;dsimp only;rw[cG aa aa,<-o,n];refine ai (aaC aa i ?_ ?_) ?_
 ·omega
 ·omega
 generalize(if c8 a b<=b then a*2^(b-c8 a b).toNat else hF h a (c8 a b-b).toNat l u)=c at*;generalize c8 a b=d at*;have v:aF c<=54:=fJ.2 aa;have m:(if h then-(c:Z) else(c:Z)).natAbs=c:=aa;refine ai (zR (jX (by grind))) ?_;rw[m];refine ai (Zg (z:=(c:Z)) aa aa) ?_;dsimp only;rw[fL (x:=(c:Z)) aa aa,g2];show bB _ _=Y (k7 h c d u,());unfold k7;by_cases j:c=9007199254740992
 ·rw[aH (aa:(c:Z)=9007199254740992),ar (aa:¬c<4503599627370496),au j];refine ai (y:=(d+1,4503599627370496,())) ?_ ?_
  ·grind [cu]
  dsimp only;rw[aD (aa:¬((4503599627370496:Z)<4503599627370496)),cG aa aa,bP,c7];split
  ·rename_i g;exact ai R3 bn
  rename_i g;rw[fL aa aa,p8 ab ab,show(2:Z)^(52:Z).toNat=4503599627370496 from rfl,aI];have al:aL (4503599627370496-4503599627370496)=0:=(by grind [fL]);have f:(d+1+1075)*4503599627370496 %18446744073709551616=(d+1+1075)*4503599627370496:=aa;rw[al,f,BP,nJ 52 ab ab aa ab aa aa,amC];exact ai (Cc aa aa) rfl
 rw[aD (aa:¬(c:Z)=9007199254740992)];refine ai (y:=(d,(c:Z),())) rfl ?_;dsimp only;rw[c7];by_cases k:c<4503599627370496
 ·rw[au (aa:(c:Z)<4503599627370496),au k];exact ai (Cc aa aa) rfl
 rw[ar (aa:¬(c:Z)<4503599627370496),ar k,ar j,cG aa aa,c7];split
 ·rename_i g;exact ai R3 bn
 rename_i g;rw[fL (x:=d+1075) aa aa,p8 ab ab,show(2:Z)^(52:Z).toNat=4503599627370496 from rfl,bN,fL (x:=(c:Z)-4503599627370496) aa aa];have f:(d+1075)*4503599627370496 %18446744073709551616=(d+1075)*4503599627370496:=aa;rw[f,BP,nJ 52 aa aa aa aa aa aa];refine ai (Cc aa aa) ?_;dsimp only;congr 3;omega
def fi (c d:eA) (e:Z):Z:=match c,d with
 |some a,Y b=>if b=0 then 9221120237041090560 else if a=0 then 0 else om a b e
 |_,_=>9221120237041090560
def GC (b:eA) (c:Z):Z:=match b with
 |some a=>if a<0 then 9221120237041090560 else if a=0 then 0 else Ly a c
 |none=>9221120237041090560
def FZ (a:Z):(aN (cD a)).1=br (a<0):=by show br (cD a<0)=_;rw[cB];exact BH
theorem ae7 (h:gz b) (i:gz e) (z:b≠0) (A:e≠0) (j:Z):∃c d k,Dh (aA (Y b),aA (Y e),56,())=Y (pN (br (b<0)!=br (e<0)) c d k,())/\0<c/\aF c<=800000/\-500000<=d/\d<=500000/\la (br (b<0)!=br (e<0)) c d k j=om b e j:=by
 have q:=kO h;have r:=kO i;have s:=kN h;have t:=kN i;have n:0<(cD b).natAbs:=(by grind [j1]);have o:0<(cD e).natAbs:=(by grind [j1]);obtain⟨a,p⟩:∃a,a=oj (cD b).natAbs (cD e).natAbs:=⟨_,bn⟩;have v:a<=131131:=(by grind [oj]);have g:58<=aF ((cD b).natAbs*2^a/(cD e).natAbs):=Gp n o (by grind [oj]);have u:aF ((cD b).natAbs*2^a)<=262203:=(by grind [H7]);refine⟨(cD b).natAbs*2^a/(cD e).natAbs,eF b-a-eF e,br ((cD b).natAbs*2^a %(cD e).natAbs≠0),?_,?_,?_,aa,aa,?_⟩
 ·unfold Dh;rw[hf,hf];refine ai (xz (jX aa)) (ai (xz (jX aa)) (ai (zR (jX aa)) ?_));dsimp only;have al:(if ay (ay (ay (56+3)+(aF (cD e).natAbs:Z))-(aF (cD b).natAbs:Z))>0 then ay (ay (ay (56+3)+(aF (cD e).natAbs:Z))-(aF (cD b).natAbs:Z)) else 0)=(a:Z):=by
   grind [cG,oj,aF,cD]
  rw[al];refine ai (Bo (m:=((cD b).natAbs:Z)) (by grind) aa aa) (ai (zR (jX aa)) ?_);have l:((cD b).natAbs:Z)*2^(a:Z).toNat=(((cD b).natAbs*2^a:X):Z):=(by grind);rw[l];refine ai (Xj (x:=(((cD b).natAbs*2^a:X):Z)) (y:=((cD e).natAbs:Z)) (by grind) (by grind) aa aa) ?_;rw[<-apy,<-apz];have w:aF ((cD b).natAbs*2^a %(cD e).natAbs)<=900000:=cx (jU (Nat.mod_le _ _)) aa;refine ai (uB (jX (by grind))) ?_;dsimp only;rw[cG (x:=eF b-(a:Z)) aa aa,cG aa aa,FZ,FZ];grind [lg,aH,aD,fB,cD,decide,pN]
 ·rcases oK ((cD b).natAbs*2^a/(cD e).natAbs) with f|f
  ·rw[f] at g;exact absurd g ab
  omega
 ·exact cO (jU (aou _ _)) aa
 unfold om yV;rw[<-p];congr 1;unfold eF;omega
theorem Ym (e:c4 p) (d:c4 k):tq (aA p,aA k,b,())=Y (fi p k b,()):=by
 unfold tq;refine ai (EU e) (ai (EU d) ?_);dsimp only;rw[A3,A3];cases p with
 |none=>cases k<;>rfl
 |some c=>
  cases k with
  |none=>rfl
  |some a=>
   by_cases f:a=0
   ·subst f;refine ai (y:=.inr (9221120237041090560,())) ?_ bn;refine ai (y:=(bp,aA (Y c),aA (Y 0),())) ?_ bn;refine ai (o0 d) ?_;rfl
   by_cases g:c=0
   ·subst g;refine ai (y:=.inr (0,())) ?_ ?_
    ·refine ai (y:=(bq,aA (Y 0),aA (Y a),())) ?_ ?_
     ·refine ai (o0 d) ?_;dsimp only;rw[show hZ (Y a)=fB a from rfl,lg,aD f]
     refine ai (o0 e) ?_;rfl
    simp_all [ar,fi]
   obtain⟨h,i,r,j,l,m,n,o,q⟩:=ae7 (e c bn) (d a bn) g f b;refine ai (y:=.inl (aA (Y c),aA (Y a),())) ?_ ?_
   ·refine ai (y:=(bq,aA (Y c),aA (Y a),())) ?_ ?_
    ·refine ai (o0 d) ?_;dsimp only;rw[show hZ (Y a)=fB a from rfl,lg,aD f]
    refine ai (o0 e) ?_;dsimp only;rw[show hZ (Y c)=fB c from rfl,lg,aD g];rfl
   simp_all [ai,S3,ar,fi]
theorem afQ:r3 (aN 0,())=Y (0,()):=by
 unfold r3;refine ai (uz (l:=[]) alR (λf b=>by cases b) ab) ?_;refine bO.1 (ae.aO (P:=λd=>d=.inl ()) ?_ ?_)
 ·refine ae.steps 0 (λc a=>a=((0:Z),())) rfl (λc a e=>by omega) ?_;grind [bv]
 grind [bv]
theorem SX {n:X} (c:aF n<=900000):∃a,r3 (aN (n:Z),())=Y (a,())/\((a=0/\n≠0)↔n %2=1):=by
 by_cases b:n=0
 ·grind [afQ]
 refine⟨(cR n:Z),?_,?_⟩
 ·grind [q1,S8]
 grind [BI]
theorem ahg:Ev (h,b,l,e,())=Y (uF h b l e,()):=by unfold Ev uF;grind
theorem ae9 (q:aF a<=800000) (C:c<=1000000):Es (l,aN (a:Z),(c:Z),h,b,())=Y (aN ((hF l a c h b:X):Z),()):=by
 unfold Es;have f:∀e:X,(a:Z)/2^e=((a/2^e:X):Z):=λe=>(by rw[<-yS,<-apy]);have o:∀e:X,br (((a:Z).natAbs:Z) %2^e≠0)=br (a %2^e≠0):=λe=>(by grind);have E:∀e,aF (a/2^e)<=800000:=λe=>cx (jU (aou _ _)) q;refine ai (Lp (m:=(a:Z)) (n:=c) (by grind) aa) ?_;rw[f];refine ai (SP (z:=(a:Z)) (n:=c) (by grind) aa) ?_;rw[o];dsimp only;by_cases v:a %2^c=0/\h=bq
 ·simp_all [au,aD,ai,hF,aN]
 refine ai (y:=.inl ((bq,([],())),aN ((a/2^c:X):Z),())) ?_ ?_
 ·grind
 dsimp only;refine ai (y:=(lZ a c h,(bq,([],())),aN ((a/2^c:X):Z),())) ?_ ?_
 ·rw[c7];split
  ·rename_i p;obtain⟨d,rfl⟩:∃d,c=d+1:=⟨c-1,aa⟩;have k:ay (((d+1:X):Z)-1)=(d:Z):=(by grind [cG]);rw[k];refine ai (Lp (m:=(a:Z)) (n:=d) (by grind) aa) ?_;rw[f];obtain⟨j,g,t⟩:=SX (n:=a/2^d) (by grind);have r:=aaw a d 1;rw[Nat.pow_one] at r;have B:=rI a (iV d);have D:2^(d+1)=2*2^d:=aa;refine ai (y:=(br (a/2^d %2=1),(bq,([],())),aN ((a/2^(d+1):X):Z),())) ?_ ?_
   ·refine ai g ?_;dsimp only;rw[g2];by_cases w:j=0
    ·rw[aH w];refine ai (kP (z:=((a/2^d:X):Z)) (by grind)) ?_;grind [lg,aH,aD]
    grind
   dsimp only;unfold lZ;by_cases s:a/2^d %2=1
   ·rw[aH s];have u:a %2^(d+1)=2^d+a %2^d:=(by grind);rw[u,ar aa];cases h
    ·show(bB _ _)=_;refine ai (SP (z:=(a:Z)) (n:=d) (by grind) aa) ?_;grind
    grind
   grind
  rename_i p;obtain rfl:c=0:=aa;simp_all [au,Nat.pow_zero,Nat.mod_one,lZ]
 dsimp only;obtain⟨j,g,t⟩:=SX (n:=a/2^c) (by grind);refine ai (y:=(br (a/2^c %2=1),(bq,([],())),aN ((a/2^c:X):Z),())) ?_ ?_
 ·refine ai (kP (z:=((a/2^c:X):Z)) (by grind)) ?_;dsimp only;have A:(fB ((a/2^c:X):Z)!=0)=br (a/2^c≠0):=by
   grind [aD,aH,lg]
  grind
 dsimp only;refine ai (y:=((bq,([],())),aN ((hF l a c h b:X):Z),())) ?_ bn;refine ai ahg ?_;dsimp only;unfold hF;rw[b8 v];by_cases i:uF l (lZ a c h) (br (a/2^c %2=1)) b=bp
 ·rw[au i,i];refine ai (GA (n:=1) ab ab) ?_;refine ai (Li (x:=((a/2^c:X):Z)) (y:=1) (by grind) ab) ?_;rfl
 grind
def B4 (a:0<=b) (c:b<9223372036854775808):r5 (h,b,())=Y (jH h b,()):=by
 unfold r5 jH;cases h
 ·rfl
 dsimp only;rw[nJ 63 a (by exact c) ab aa ab ab,aoo];rfl
theorem S4:AQ (h,b,())=Y (q5 h b,()):=by
 unfold AQ q5;dsimp only;refine ai (y:=if(b=3\/(b=1/\h=bq)\/(b=2/\h=bp)) then .inr (jH h 9218868437227405311,()) else .inl ()) ?_ ?_
 ·refine ai (y:=(br (b=3\/(b=1/\h=bq)\/(b=2/\h=bp)),())) ?_ ?_
  ·rw[g2,g2,g2];by_cases e:b=3
   ·grind
   by_cases c:b=1
   ·grind
   by_cases d:b=2
   ·simp_all
   grind
  dsimp only;by_cases a:(b=3\/(b=1/\h=bq)\/(b=2/\h=bp))
  ·rw[aH a,au a];exact ai (B4 ab ab) rfl
  grind
 by_cases a:(b=3\/(b=1/\h=bq)\/(b=2/\h=bp))
 ·rw[au a,au a]
 rw[ar a,ar a];exact ai (B4 ab ab) rfl
theorem ahb {neg q0:bz} {e qZ:Z} (c:0<a) (j:-1074<c8 a e):4503599627370496<=(if c8 a e<=e then a*2^(e-c8 a e).toNat else hF neg a (c8 a e-e).toNat q0 qZ):=by
 obtain⟨f,h⟩:=oV c;have i:=pE c;have k:c8 a e=e+aF a-53:=(by grind [c8]);have g:(2:X)^52=4503599627370496:=ab;split
 ·rename_i d;have b:2^(aF a-1)*2^(e-c8 a e).toNat<=a*2^(e-c8 a e).toNat:=gj _ f;rw[<-hy] at b;grind
 rename_i d;have b:2^52<=a/2^(c8 a e-e).toNat:=(by rw[apr (iV _),<-hy];grind);grind [hF]
theorem afK (s:aF a<=800000) (j:0<a) (C:-500000<=b) (D:b<=500000) (H:l=bp->54<=aF a):Ey (h,aN (a:Z),b,l,u,())=Y (la h a b l u,()):=by
 have E:=pE j;have F:=zi (neg:=h) (q0:=l) (qZ:=u) (e:=b) j;have p:=ahb (neg:=h) (q0:=l) (qZ:=u) (e:=b) j;have q:la h a b l u=k7 h (if c8 a b<=b then a*2^(b-c8 a b).toNat else hF h a (c8 a b-b).toNat l u) (c8 a b) u:=(by grind [la]);have r:c8 a b=if(-1074:Z)>b+aF a-1-52 then-1074 else b+aF a-1-52:=by grind [c8]
 have I:-1074<=c8 a b:=aa;have J:c8 a b<=1400000:=aa;have w:-1000000<=c8 a b-b:=aa;have A:c8 a b-b<=1000000:=aa;unfold Ey;refine ai (Lk (z:=(a:Z)) (by grind)) ?_;rw[q1];dsimp only;rw[cG (x:=b+(aF a:Z)) aa aa,cG (x:=b+(aF a:Z)-1) aa aa,cG (x:=b+(aF a:Z)-1-52) aa aa,<-r,q,c7];split
 ·rename_i t;have K:972<=c8 a b:=aa;have p:=p aa;refine ai S4 ?_;clear r q w A;generalize(if c8 a b<=b then a*2^(b-c8 a b).toNat else hF h a (c8 a b-b).toNat l u)=d at*;unfold k7;grind
 rename_i t;refine ai (y:=(aN ((if c8 a b<=b then a*2^(b-c8 a b).toNat else hF h a (c8 a b-b).toNat l u:X):Z),())) ?_ ?_
 ·rw[c7];split
  ·rename_i g;obtain⟨f,k⟩:∃f:X,c8 a b-b=f:=⟨(c8 a b-b).toNat,aa⟩;rw[cG (x:=c8 a b-b) aa aa,k,alL];refine ai (ae9 s aa) ?_;dsimp only;by_cases B:c8 a b<=b
   ·have v:f=0:=aa;have G:l=bq:=by
     grind
    rw[au B,v];unfold hF;grind
   grind
  rename_i g;obtain⟨f,k⟩:∃f:X,b-c8 a b=f:=⟨(b-c8 a b).toNat,aa⟩;rw[cG (x:=b-c8 a b) aa aa,au aa,k,fP];refine ai (S5 (z:=(a:Z)) (n:=f) (by grind) aa) ?_;grind
 generalize(if c8 a b<=b then a*2^(b-c8 a b).toNat else hF h a (c8 a b-b).toNat l u)=d at*;generalize c8 a b=c at*;dsimp only;refine ai (afy (z:=(d:Z)) aa aa) ?_;dsimp only;rw[g2];unfold k7;by_cases m:d=9007199254740992
 ·rw[aH (aa:(d:Z)=9007199254740992),ar (aa:¬d<4503599627370496),au m];refine ai (y:=(c+1,4503599627370496,())) ?_ ?_
  ·grind [cu]
  dsimp only;rw[cG (x:=c+1+53) aa aa,aH (aa:(4503599627370496:Z)>=4503599627370496)];by_cases g:c+1+1075>=2047
  ·rw[au g];refine ai (y:=.inr (q5 h u,())) ?_ bn;refine ai (y:=(bp,())) ?_ (ai S4 bn);grind
  rw[ar g];refine ai (y:=.inr (jH h ((c+1+1075)*4503599627370496),())) ?_ bn;refine ai (y:=(bq,())) ?_ ?_
  ·grind
  dsimp only;rw[cG (x:=c+1+1075) aa aa,fL (x:=c+1+1075) aa aa,p8 ab ab,show(2:Z)^(52:Z).toNat=4503599627370496 from rfl];have al:aL (ay (4503599627370496-4503599627370496))=0:=(by grind [cG,fL]);have i:(c+1+1075)*4503599627370496 %18446744073709551616=(c+1+1075)*4503599627370496:=aa;rw[al,i];show((r5 (h,gK bD ((c+1+1075)*4503599627370496) 0,())).bind _)=_;rw[BP,nJ 52 ab ab aa ab aa aa,amC];exact ai (B4 aa aa) rfl
 rw[aD (aa:¬(d:Z)=9007199254740992)];refine ai (y:=(c,(d:Z),())) rfl ?_;dsimp only;rw[cG (x:=c+53) aa aa];by_cases o:d<4503599627370496
 ·rw[aD (aa:¬((d:Z)>=4503599627370496)),au o,fL (x:=(d:Z)) aa aa];refine ai (y:=.inl ()) ?_ ?_
  ·grind
  exact ai (B4 aa aa) rfl
 rw[aH (aa:((d:Z)>=4503599627370496)),ar o,ar m];by_cases g:c+1075>=2047
 ·omega
 rw[ar g];refine ai (y:=.inr (jH h ((c+1075)*4503599627370496+((d:Z)-4503599627370496)),())) ?_ bn;refine ai (y:=(bq,())) ?_ ?_
 ·grind
 dsimp only;rw[cG (x:=c+1075) aa aa,fL (x:=c+1075) aa aa,p8 ab ab,show(2:Z)^(52:Z).toNat=4503599627370496 from rfl];have al:aL (ay ((d:Z)-4503599627370496))=(d:Z)-4503599627370496:=(by grind [cG,fL]);have i:(c+1075)*4503599627370496 %18446744073709551616=(c+1075)*4503599627370496:=aa;rw[al,i];show((r5 (h,gK bD ((c+1075)*4503599627370496) ((d:Z)-4503599627370496),())).bind _)=_;rw[BP,nJ 52 aa aa aa aa aa aa];refine ai (B4 aa aa) ?_;grind
theorem M2 (a:fh b):eQ bD b 52=Y (b/4503599627370496)/\e0 bD (b/4503599627370496) 2047=bh b/\e0 bD b 4503599627370495=gw b:=by
 have c:=a.1;have d:=a.2;refine⟨?_,?_,?_⟩
 ·grind [zb]
 ·rw[ta 11 aa aa 2047 ab ab];rfl
 rw[ta 52 aa aa 4503599627370495 ab ab];rfl
theorem SO (a:fh b):x7 (b,())=Y (!br (bh b=2047),()):=by simp_all [fQ,ai,M2,x7]
theorem afz (a:fh b):Ex (b,())=Y (br (9223372036854775808<=b),()):=by grind [Nw,Ex]
theorem Lx (g:fh e):vA (e,())=Y (aA (aP e),()):=by
 obtain⟨i,j,k⟩:=M2 g;have t:=yf e;have s:=A6 e;unfold vA aP;refine ai (SO g) ?_;dsimp only;by_cases f:bh e=2047
 ·rw[aH f,au f];rfl
 rw[aD f,ar f,show(!!bq)=bq from rfl,bP,i,aI,j,k,cG (x:=bh e) aa aa];obtain⟨a,c,l,n,o,p,q,h⟩:∃a c,(bif br (bh e>0) then some (gK bD (gw e) 4503599627370496,ay (bh e-1075),((false,((false,([],())),((0:Z),()))):e2),()) else some (gw e,(-1074:Z),(false,((false,([],())),((0:Z),()))),()))=some (a,c,(false,((false,([],())),((0:Z),()))),())/\0<=a/\a<9007199254740992/\-1074<=c/\c<=972/\(a=(if bh e=0 then gw e else gw e+4503599627370496)/\c=(if bh e=0 then-1074 else bh e-1075)):=by
  by_cases d:bh e=0
  ·refine⟨gw e,-1074,?_,aa,aa,aa,aa,by rw[au d],by rw[au d]⟩;grind
  refine⟨gw e+4503599627370496,bh e-1075,?_,aa,aa,aa,aa,by rw[ar d],by rw[ar d]⟩;rw[aH (aa:bh e>0),cG aa aa,nJ 52 aa aa aa aa aa ab];rfl
 rw[<-h.1,<-h.2];refine ai l ?_;dsimp only;refine ai (afz g) ?_;rw[nN,bN];dsimp only;rw[qe a,lH (x:=a/4294967296) aa aa];have r:aF a.natAbs<=53:=fJ.2 aa;refine ai (SQ (b:=(br (9223372036854775808<=e),[a %4294967296,a/4294967296],())) (m:=if e<9223372036854775808 then a else-a) (ama.2 ⟨⟨aa,aa⟩,ama.2 ⟨⟨aa,aa⟩,alR⟩⟩) ac ?_ ?_ aa aa) rfl
 ·unfold hu;simp only[ag];grind
 grind
def kx (a:eA) (b:Z):Z:=match a with
 |none=>9221120237041090560
 |some c=>p4 c b
theorem afJ (d:c4 k):AP (aA k,b,())=Y (kx k b,()):=by
 unfold AP;refine ai (q8 d) ?_;dsimp only;rw[A3];cases k with
 |none=>rfl
 |some a=>
  have e:=d a bn;have h:=kO e;have i:=kN e;rw[hf];refine ai (kP aa) ?_;dsimp only;rw[lg];unfold kx p4;by_cases c:a=0
  ·subst c;rw[aH (show cD 0=0 from rfl)];rfl
  rw[aD (j1 c)];simp only;rw[b8 c,bP];have g:0<(cD a).natAbs:=(by grind [j1]);refine ai (Gs aa) ?_;dsimp only;rw[FZ];refine ai (afK aa g aa aa (λf=>by cases f)) ?_;simp_all [b8,eF]
def FB (a:Z):c4 (jm a):=Kn a 0
def aft (a:-9223372036854775808<=b) (c:b<=9223372036854775807):Ew (b,e,())=Y (kx (jm b) e,()):=by unfold Ew;exact ai (afg a c) (ai (afJ (FB b)) rfl)
def pV (a:Z) (b:X):X:=((a %18446744073709551616) %(b:Z)).toNat
theorem FU (a:Z) {n:X} (b:0<n):pV a n<n:=by simp_all [qh,oE,pV]
theorem BC (a:Z) {n:X} (c:0<n) (e:n<=9223372036854775807):r0 (a,(n:Z),())=Y ((pV a n:Z),()):=by unfold r0;have d:=FU a c;have b:(a %18446744073709551616) %(n:Z)=(pV a n:Z):=(by unfold pV;have:=anL (a %18446744073709551616) (aa:(n:Z)≠0);omega);dsimp only;rw[sJ a,fL (x:=(n:Z)) aa aa,(Gq (x:=a %18446744073709551616) (y:=(n:Z)) ⟨aa,aa⟩ aa).2,b];grind [Cl]
theorem ahT (a b:Z):fh (uJ bD a b):=by grind [Hf,uJ,fh]
theorem Mf (e:ala) (i:e.length<=9223372036854775807) (h:Z):ae (vy (e,h,())) (λb=>fh b.1):=by
 have f:∀a b:Z,0<=b->∃c,eQ bD a b=Y c:=λa b d=>(by unfold eQ;simp_all);unfold vy;dsimp only;refine ae.aO (P:=λ_=>True) ?_ ?_
 ·rw[c7];refine ae.ite (λd=>?_) λd=>bv.2 trivial;simp_all [ae.bs,BC,eT,bv,trivial,FU,bb]
 rintro⟨a,_⟩ _;dsimp only;obtain⟨c,g⟩:=f a 31 ab;refine ae.bs g ?_;obtain⟨k,j⟩:=f (aL (uJ bD a c*13787848793156543929)) 29 ab;grind [ae.bs,bv,ahT]
theorem Tw (a:0<=b) (c:b<9223372036854775808):fh (jH h b):=by grind [jH,fh]
theorem ad0 (b:bz) (a:Z):fh (q5 b a):=by grind [Tw,q5]
theorem ad4 (c:a<=9007199254740992) (d:-1074<=b):fh (k7 h a b e):=by grind [ad0,Tw,k7]
theorem SR (c:0<a):fh (la l a b h u):=by have d:=zi (neg:=l) (q0:=h) (qZ:=u) (e:=b) c;grind [ad4,la,k7,c8,hF]
def Ku:fh 9221120237041090560:=⟨ab,ab⟩
theorem GB (a:eA) (c:Z):fh (kx a c):=by
 unfold kx;cases a with
 |none=>exact Ku
 |some d=>
  simp only;unfold p4;by_cases b:d=0
  ·rw[au b];exact⟨ab,ab⟩
  simp_all [ar,SR,j1]
theorem Gm (i:Z):fh (fi k p i):=by
 unfold fi;cases k with
 |none=>exact Ku
 |some a=>
  cases p with
  |none=>exact Ku
  |some b=>
   simp only;by_cases c:b=0
   ·rw[au c];exact⟨ab,ab⟩
   by_cases f:a=0
   ·rw[ar c,au f];exact⟨ab,ab⟩
   rw[ar c,ar f];unfold om yV;have g:0<(cD a).natAbs:=(by grind [j1]);have h:0<(cD b).natAbs:=(by grind [j1]);have e:58<=aF ((cD a).natAbs*2^oj (cD a).natAbs (cD b).natAbs/(cD b).natAbs):=Gp g h (by grind [oj]);refine SR ?_;rcases oK ((cD a).natAbs*2^oj (cD a).natAbs (cD b).natAbs/(cD b).natAbs) with d|d
   ·rw[d] at e;exact absurd e ab
   omega
structure gM (rows eO:X) (st i6 nO:ala):Prop where
 len:st.length=eO+1
 first:st.getD 0 0=0
 mono:∀j,j<eO->st.getD j 0<=st.getD (j+1) 0
 last:st.getD eO 0=(i6.length:Z)
 val:nO.length=i6.length
 rng:∀j k:X,j<eO->st.getD j 0<=(k:Z)->(k:Z)<st.getD (j+1) 0->0<=i6.getD k 0/\i6.getD k 0<(rows:Z)
 asc:∀j k:X,j<eO->st.getD j 0<(k:Z)->(k:Z)<st.getD (j+1) 0->i6.getD (k-1) 0<i6.getD k 0
theorem hG {i:X} (a:i<d.length):aw d (i:Z)=Y (d.getD i 0):=by rw[eT a,kr a]
theorem ags (o:d.length<=1000000):D7 (d,())=Y (open Classical in decide (∀a,a+1<d.length->d.getD a 0<=d.getD (a+1) 0),()):=by
 classical
 unfold D7;dsimp only;refine bO.1 (ae.aO (P:=λj=>match j with|.inl _=>(∀a,a+1<d.length->d.getD a 0<=d.getD (a+1) 0)|.inr k=>k=(bq,())/\¬(∀a,a+1<d.length->d.getD a 0<=d.getD (a+1) 0)) ?_ ?_)
 ·refine alv (λe=>∃b:X,(e.1=(b:Z)\/(e.1=-1/\b=0))/\b<=d.length/\(b<d.length\/d.length=0)/\(∀a,b<=a->a+1<d.length->d.getD a 0<=d.getD (a+1) 0)) (λe=>e.1.toNat) ⟨d.length-1,?_,aa,aa,λa f h=>by omega⟩ ?_
  ·grind [cG,bb]
  rintro⟨l,_⟩ ⟨b,f,h,m,n⟩;dsimp only at f|-;rw[c7];refine ae.ite (λg=>?_) λg=>?_
  ·obtain rfl:l=(b:Z):=aa;obtain⟨c,rfl⟩:∃c,b=c+1:=⟨b-1,aa⟩;have al:ay (((c+1:X):Z)-1)=(c:Z):=(by grind [cG]);rw[al];refine ae.bs (hG aa) (ae.bs (hG aa) ?_);refine ae.bs (y:=(br (d.getD (c+1) 0<d.getD c 0),())) (by simp_all [apA,bN,vk,tn]) ?_;dsimp only;rw[c7];refine ae.ite (λi=>?_) λi=>?_
   ·grind [bv]
   grind [bv,cn]
  grind [bv]
 grind [alg,bv,alK]
def kR (e:Z) (d b:ala) (c:X):Prop:=∀a:X,d.getD c 0<=(a:Z)->(a:Z)<d.getD (c+1) 0->(if(a:Z)=d.getD c 0 then-1 else b.getD (a-1) 0)<b.getD a 0/\b.getD a 0<e
theorem kR.pos (h:kR b d f a) (i:0<=d.getD a 0):∀c:X,d.getD a 0<=(c:Z)->(c:Z)<d.getD (a+1) 0->0<=f.getD c 0:=by
 intro c
 induction c with
 |zero=>
  intro e g;have:=(h 0 e g).1;omega
 |succ c k=>
  intro e g;have j:=(h (c+1) e g).1;grind
theorem kR.rng (h:0<=d.getD a 0):kR b d f a↔(∀k:X,d.getD a 0<=(k:Z)->(k:Z)<d.getD (a+1) 0->0<=f.getD k 0/\f.getD k 0<b)/\(∀k:X,d.getD a 0<(k:Z)->(k:Z)<d.getD (a+1) 0->f.getD (k-1) 0<f.getD k 0):=by
 constructor
 ·intro g;refine⟨λk c e=>⟨g.pos h k c e,(g k c e).2⟩,λk c e=>?_⟩;have:=(g k aa e).1;omega
 rintro⟨c,e⟩ k i j;refine⟨?_,(c k i j).2⟩;split
 ·grind
 grind
theorem agj {l:ala} {lo hi t:X} (a:hi<=l.length) (b:lo+t<hi):((l.take hi).drop lo).length=hi-lo/\((l.take hi).drop lo)[t]?=Y (l.getD (lo+t) 0):=by grind
theorem agk {l:ala} {lo:X} (b:a<=l.length):((l.take a).drop lo).length=a-lo:=by grind
theorem gM.iff:gM c a d f g↔d.length=a+1/\d.getD 0 0=0/\(∀b,b<a->d.getD b 0<=d.getD (b+1) 0)/\d.getD a 0=(f.length:Z)/\g.length=f.length/\∀b,b<a->kR (c:Z) d f b:=by
 have o:(∀b,b<a->d.getD b 0<=d.getD (b+1) 0)->d.getD 0 0=0->∀b,b<=a->0<=d.getD b 0:=λr q b=>by
  induction b with
  |zero=>omega
  |succ b s=>grind
 constructor
 ·rintro⟨l,h,i,m,n,k,p⟩;exact⟨l,h,i,m,n,λb j=>(kR.rng (o i h b aa)).2 ⟨λe=>k b e j,λe=>p b e j⟩⟩
 rintro⟨l,h,i,m,n,k⟩;exact⟨l,h,i,m,n,λb e j=>((kR.rng (o i h b aa)).1 (k b j)).1 e,λb e j=>((kR.rng (o i h b aa)).1 (k b j)).2 e⟩
section
open Go.Proofs
def Cg:bm (String×DataW bt):=[("math/bits.deBruijn32tab",Lib.tabData .u8 qI)]
def agO (b:Os) (a:ew):laidMetH cm Cg ((World.doorLaid cm 400 b).forCall (λ_ _=>0) ⟨#[],a,[]⟩).memory:=
 laidMetH_of_parts3 (fuel:=8) (laidMet_of_run' 8 (by kernel_rfl) (by kernel_rfl)) (by kernel_rfl) (by kernel_rfl)
def agN {b:bC} (c:laidMetH cm Cg b):lM E (λr=>r<b.heap.size) b:=by
 rw[MakeChecks.laidMetH_plain _ _ _ (by kernel_rfl)] at c;have f:cm.globalNamed "math/bits.deBruijn32tab"=Y 0:=(by kernel_rfl);have j:=Lib.tabIs_of_head (g:=0) (t:=301) (e:=5) (n:=32) f (by kernel_rfl) (by kernel_rfl) (by kernel_rfl) (by kernel_rfl) (by kernel_rfl) c;intro q h;have h:q∈[(⟨0,301,.u8,qI⟩:u1)]:=h;obtain rfl:=gq.1 h;have s:0<b.heap.size:=by
  have d:=j.cell f 0 ab;unfold amr at d;split at d
  ·rename_i x w y v;exact(sL.1 v).1
  cases d
 refine⟨bn,_,_,bn,bc _,(λc=>by cases c),.inr ⟨0,0,bn,s,λa p i=>?_⟩⟩;obtain⟨l,i⟩:=h0.1 i;refine⟨[.int .u8 p],bn,λo z m=>?_,bn,bn⟩;have k:=j.cell f a l;have u:(qI.getD a 0:Z)=p:=(by rw[kr l];exact i);rw[u] at k;cases o with
 |zero=>
  obtain rfl:=gC m;have:(⟨0,0+a*alC (.int .u8)+0,bo⟩:Addr)=⟨0,a,bo⟩:=(by show(⟨0,0+a*1+0,bo⟩:Addr)=_;congr 1;omega);rw[this];exact k
 |succ o=>cases m
end
section
theorem WT (a0:c<=200) (an:a<=200) (H:d.length<=10000) (Q:f.length<=1000000) (a4:g.length<=1000000):DY (((c:Z),(a:Z),f,d,g,()),())=Y (open Classical in decide (gM c a f d g),()):=by
 classical
 unfold DY;refine bO.1 ?_;dsimp only;have O:aQ (a:Z)=((a+1:X):Z):=bg aa;have am:∀(j:¬gM c a f d g),(bq,())=(br (gM c a f d g),()):=λj=>(by rw[alK j]);refine ae.aO (P:=λm=>match m with
  |.inl _=>f.length=a+1/\f.getD 0 0=0/\(∀b,b<a->f.getD b 0<=f.getD (b+1) 0)/\f.getD a 0=(d.length:Z)/\g.length=d.length
  |.inr o=>o=(bq,())/\¬gM c a f d g) ?_ ?_
 ·rw[O,fQ];by_cases A:f.length=a+1
  ·rw[aH (show ao f=((a+1:X):Z) by grind)];refine ae.bs (y:=f.getD 0 0) (hG (i:=0) aa) ?_;rw[fQ];by_cases q:f.getD 0 0=0
   ·rw[aH q];refine ae.bs (ags Q) ?_;dsimp only;by_cases r:∀p,p+1<f.length->f.getD p 0<=f.getD (p+1) 0
    ·rw[alg r];refine ae.bs (y:=f.getD a 0) (hG aa) ?_;rw[fQ];by_cases s:f.getD a 0=(d.length:Z)
     ·rw[aH (show f.getD a 0=ao d from s),fQ];by_cases B:d.length=g.length
      ·grind [bv,aH,bb]
      rw[aD (show¬ao d=ao g by grind)];exact bv.2 ⟨bn,λj=>B j.val.symm⟩
     rw[aD (show¬f.getD a 0=ao d from s)];exact bv.2 ⟨bn,λj=>s j.last⟩
    rw[alK r];exact bv.2 ⟨bn,λj=>r λp H=>j.mono p aa⟩
   rw[aD q];exact bv.2 ⟨bn,λj=>q j.first⟩
  rw[aD (show¬ao f=((a+1:X):Z) by grind)];exact bv.2 ⟨bn,λj=>A j.len⟩
 rintro(m|m) w
 rotate_left
 ·grind [bv]
 obtain⟨A,q,r,s,B⟩:f.length=a+1/\f.getD 0 0=0/\(∀b,b<a->f.getD b 0<=f.getD (b+1) 0)/\f.getD a 0=(d.length:Z)/\g.length=d.length:=w;have F:∀b,b<=a->0<=f.getD b 0:=λb=>by
  induction b with
  |zero=>omega
  |succ b R=>grind
 have w:∀u b,b+u=a->f.getD b 0<=(d.length:Z):=λu=>by
  induction u with
  |zero=>grind
  |succ u R=>grind
 dsimp only;refine ae.aO (P:=λm=>match m with
  |.inl _=>(∀b,b<a->kR (c:Z) f d b)
  |.inr o=>o=(bq,())/\¬(∀b,b<a->kR (c:Z) f d b)) ?_ ?_
 ·refine ae.steps a (λp x=>x=((p:Z),())/\∀b,b<p->kR (c:Z) f d b) ⟨bn,λb L=>by omega⟩ ?_ ?_
  ·rintro b _ L ⟨rfl,C⟩;dsimp only;rw[a7 (aH (aa:(b:Z)<(a:Z))),bg aa];obtain⟨e,N⟩:=ald (F b aa);obtain⟨n,K⟩:=ald (F (b+1) aa);have E:n<=d.length:=(by have:=w (a-(b+1)) (b+1) aa;omega);have av:e<=n:=(by grind);refine ae.bs (y:=(e:Z)) (by rw[hG aa,N]) (ae.bs (y:=(n:Z)) (by rw[hG aa,K]) (ae.bs (y:=(e,n)) (by grind [wh,vZ]) ?_));dsimp only;have ap:=agk (l:=d) (lo:=e) E;refine ae.aO (P:=λm=>match m with
    |.inl _=>kR (c:Z) f d b
    |.inr o=>o=.inr (.inr (bq,()))/\¬kR (c:Z) f d b) ?_ ?_
   ·refine ae.steps (n-e) (λh x=>x=((if h=0 then-1 else d.getD (e+h-1) 0),(h:Z),())/\∀k:X,e<=k->k<e+h->(if(k:Z)=f.getD b 0 then-1 else d.getD (k-1) 0)<d.getD k 0/\d.getD k 0<(c:Z)) ⟨bn,λk C D=>by omega⟩ ?_ ?_
    ·rintro h _ a3 ⟨rfl,D⟩;have J:=(agj (l:=d) (lo:=e) (hi:=n) (t:=h) E aa).2;have M:(if h=0 then-1 else d.getD (e+h-1) 0)=(if((e+h:X):Z)=f.getD b 0 then-1 else d.getD (e+h-1) 0):=by
      omega
     dsimp only;rw[a7 (aH (show(h:Z)<ao ((d.take n).drop e) by grind)),M];refine ae.aO (P:=λm=>match m with
      |.inl o=>o=(d.getD (e+h) 0,())/\((if((e+h:X):Z)=f.getD b 0 then-1 else d.getD (e+h-1) 0)<d.getD (e+h) 0/\d.getD (e+h) 0<(c:Z))
      |.inr o=>o=.inr (.inr (.inr (.inr (bq,()))))/\¬((if((e+h:X):Z)=f.getD b 0 then-1 else d.getD (e+h-1) 0)<d.getD (e+h) 0/\d.getD (e+h) 0<(c:Z))) ?_ ?_
     ·refine ae.bs (y:=d.getD (e+h) 0) (gJ J) ?_;generalize(if((e+h:X):Z)=f.getD b 0 then-1 else d.getD (e+h-1) 0)=V;generalize d.getD (e+h) 0=z;by_cases I:z<=V
      ·grind [bv,aH]
      rw[aD I];by_cases ad:z>=(c:Z)
      ·grind [bv,aH]
      grind [aD,bv]
     rintro(m|m) G
     ·obtain⟨rfl,v⟩:=G;refine bv.2 ⟨?_,?_⟩
      ·rw[bg aa,ar aa];rfl
      intro k S T;rcases cU k (e+h) with U|U
      ·grind
      obtain rfl:k=e+h:=aa;exact v
     obtain⟨rfl,v⟩:=G;refine bv.2 ⟨bn,λj=>v ?_⟩;exact j (e+h) aa aa
    rintro _ ⟨rfl,D⟩;dsimp only;rw[a2 (aD (show¬(((n-e:X):Z)<ao ((d.take n).drop e)) by grind))];refine bv.2 ?_;intro k S T;simp_all
   grind [bv,cn]
  rintro _ ⟨rfl,C⟩;simp_all [bv,a2,aD]
 grind [bv,alg,gM.iff]
def oD (b:ala):Prop:=∀a,a<b.length->bh (b.getD a 0)≠2047
open Classical in
def gI (d b:X) (e c a:ala):Z:=if gM d b e c a then if oD a then 0 else 4 else 1
theorem MV.getD {a:ala} (e:∀d∈a,fh d) (c:X):fh (a.getD c 0):=by
 rcases cU c a.length with b|b
 ·grind
 rw[pQ b];exact⟨ab,ab⟩
theorem aaV (j:∀m∈d,fh m) (o:d.length<=1000000):D1 (d,(),())=Y (open Classical in decide (¬oD d),()):=by
 classical
 unfold D1;refine bO.1 ?_;refine ae.aO (P:=λc=>∃e,c=(e,())/\(0<=e↔¬oD d)) ?_ ?_
 ·unfold ID;dsimp only;refine ae.aO (P:=λk=>match k with|.inl _=>oD d|.inr c=>0<=c.1/\¬oD d) ?_ ?_
  ·refine ae.steps d.length (λa l=>l=((a:Z),())/\∀b,b<a->bh (d.getD b 0)≠2047) ⟨bn,λb n=>by omega⟩ ?_ ?_
   ·rintro a _ h ⟨rfl,g⟩;dsimp only;rw[a7 (aH (show(a:Z)<ao d by grind))];refine ae.bs (hG h) ?_;unfold IB;refine ae.bs (y:=(br (bh (d.getD a 0)=2047),())) (ai (FC (MV.getD j a)) (by grind)) ?_;dsimp only;rw[c7];refine ae.ite (λf=>?_) λf=>?_
    ·exact bv.2 ⟨aa,λi=>i a h f⟩
    grind [bv,bg,cn]
   rintro _ ⟨rfl,g⟩;dsimp only;rw[a2 (aD (show¬((d.length:Z)<ao d) by grind))];exact bv.2 g
  grind [bv]
 rintro _ ⟨e,rfl,p⟩;refine bv.2 ?_;grind
theorem aag (j:c<=200) (h:a<=200) (i:f.length<=10000) (k:g.length<=1000000) (e:d.length<=1000000) (l:∀m∈d,fh m):tz (((c:Z),(a:Z),g,f,d,()),())=Y (gI c a g f d,()):=by
 classical
 unfold tz gI;dsimp only;refine ai (y:=(bq,())) ?_ ?_
 ·unfold D0;grind
 dsimp only;rw[bP];refine ai (WT j h i k e) ?_;dsimp only;by_cases b:gM c a g f d
 ·rw[alg b,au b];refine ai (aaV l e) ?_;grind
 grind
end
theorem afu (h:∀l∈d,fh l) (n:d.length<=1000000):Ez (d,())=Y (open Classical in decide (oD d),()):=by
 classical
 unfold Ez;refine bO.1 ?_;dsimp only;refine ae.aO (P:=λi=>match i with|.inl _=>oD d|.inr j=>j=(bq,())/\¬oD d) ?_ ?_
 ·refine ae.steps d.length (λa k=>k=((a:Z),())/\∀b,b<a->bh (d.getD b 0)≠2047) ⟨bn,λb m=>by omega⟩ ?_ ?_
  ·rintro a _ f ⟨rfl,e⟩;dsimp only;rw[a7 (aH (show(a:Z)<ao d by grind))];refine ae.bs (hG f) (ae.bs (SO (MV.getD h a)) ?_);dsimp only;rw[Bool.not_not,c7];refine ae.ite (λc=>?_) λc=>?_
   ·exact bv.2 ⟨bn,λg=>g a f c⟩
   grind [bv,bg,cn]
  rintro _ ⟨rfl,e⟩;dsimp only;rw[a2 (aD (show¬((d.length:Z)<ao d) by grind))];exact bv.2 e
 grind [alg,bv,alK]
theorem ae8 (bl:c<=200) (an:a<=200) (ap:f.length<=10000) (bx:d.length<=1000000) (R:g.length<=1000000) (S:∀ad∈g,fh ad):r6 (((c:Z),(a:Z),d,f,g,()),())=Y (gI c a d f g,()):=by
 classical
 unfold r6;refine bO.1 ?_;dsimp only;have Q:aQ (a:Z)=((a+1:X):Z):=bg aa;have am:∀(l:¬gM c a d f g),((1:Z),())=(gI c a d f g,()):=λl=>(by unfold gI;grind);refine ae.bs (y:=.inl ()) ?_ ?_
 ·grind
 dsimp only;refine ae.aO (P:=λk=>match k with
  |.inl _=>d.length=a+1/\d.getD 0 0=0/\d.getD a 0=(f.length:Z)/\g.length=f.length
  |.inr m=>m=((1:Z),())/\¬gM c a d f g) ?_ ?_
 ·rw[Q,fQ,fQ];by_cases B:g.length=f.length
  ·rw[aH (show ao g=ao f by grind)];by_cases A:d.length=a+1
   ·rw[aH (show ao d=((a+1:X):Z) by grind)];refine ae.bs (y:=d.getD 0 0) (hG (i:=0) aa) ?_;rw[fQ];by_cases q:d.getD 0 0=0
    ·rw[aH q];refine ae.bs (y:=d.getD a 0) (hG aa) ?_;rw[fQ];by_cases u:d.getD a 0=(f.length:Z)
     ·grind [bv,aH]
     rw[aD (show¬d.getD a 0=ao f from u)];exact bv.2 ⟨bn,λl=>u l.last⟩
    rw[aD q];exact bv.2 ⟨bn,λl=>q l.first⟩
   rw[aD (show¬ao d=((a+1:X):Z) by grind)];exact bv.2 ⟨bn,λl=>A l.len⟩
  rw[aD (show¬ao g=ao f by grind)];exact bv.2 ⟨bn,λl=>B l.val⟩
 rintro(k|k) r
 rotate_left
 ·grind [bv]
 obtain⟨A,q,u,B⟩:d.length=a+1/\d.getD 0 0=0/\d.getD a 0=(f.length:Z)/\g.length=f.length:=r;dsimp only;refine ae.aO (P:=λk=>match k with
  |.inl _=>(∀b,b<a->d.getD b 0<=d.getD (b+1) 0)
  |.inr m=>m=((1:Z),())/\¬gM c a d f g) ?_ ?_
 ·refine ae.steps a (λp t=>t=((p:Z),())/\∀b,b<p->d.getD b 0<=d.getD (b+1) 0) ⟨bn,λb z=>by omega⟩ ?_ ?_
  ·rintro b _ z ⟨rfl,x⟩;dsimp only;rw[a7 (aH (aa:(b:Z)<(a:Z))),bg aa];refine ae.bs (hG aa) (ae.bs (hG aa) ?_);rw[c7];refine ae.ite (λw=>?_) λw=>?_
   ·exact bv.2 ⟨bn,λl=>by have:=l.mono b z;omega⟩
   grind [bv,cn]
  rintro _ ⟨rfl,x⟩;simp_all [bv,a2,aD]
 rintro(k|k) r
 rotate_left
 ·grind [bv]
 have M:∀b,b<a->d.getD b 0<=d.getD (b+1) 0:=r;have J:∀b,b<=a->0<=d.getD b 0:=λb=>by
  induction b with
  |zero=>omega
  |succ b K=>grind
 have r:∀v b,b+v=a->d.getD b 0<=(f.length:Z):=λv=>by
  induction v with
  |zero=>grind
  |succ v K=>grind
 dsimp only;refine ae.aO (P:=λk=>match k with
  |.inl _=>(∀b,b<a->kR (c:Z) d f b)
  |.inr m=>m=((1:Z),())/\¬(∀b,b<a->kR (c:Z) d f b)) ?_ ?_
 ·refine ae.steps a (λp t=>t=((p:Z),())/\∀b,b<p->kR (c:Z) d f b) ⟨bn,λb z=>by omega⟩ ?_ ?_
  ·rintro b _ z ⟨rfl,x⟩;dsimp only;rw[a7 (aH (aa:(b:Z)<(a:Z))),bg aa];obtain⟨e,a3⟩:=ald (J b aa);obtain⟨o,O⟩:=ald (J (b+1) aa);have av:o<=f.length:=(by have:=r (a-(b+1)) (b+1) aa;omega);have a0:e<=o:=(by grind);have G:aw d (b:Z)=Y (e:Z):=(by grind [hG]);have H:aw d ((b+1:X):Z)=Y (o:Z):=(by rw[hG aa,O]);refine ae.bs G ?_;refine ae.aO (P:=λk=>match k with
    |.inl _=>kR (c:Z) d f b
    |.inr m=>m=.inr (.inr ((1:Z),()))/\¬kR (c:Z) d f b) ?_ ?_
   ·refine ae.steps (o-e) (λh t=>t=(((e+h:X):Z),())/\∀j:X,e<=j->j<e+h->(if(j:Z)=d.getD b 0 then-1 else f.getD (j-1) 0)<f.getD j 0/\f.getD j 0<(c:Z)) ⟨bn,λj x n=>by omega⟩ ?_ ?_
    ·rintro h _ ce ⟨rfl,n⟩;dsimp only;refine ae.bs H ?_;rw[a7 (aH (aa:((e+h:X):Z)<(o:Z)))];have C:aw f ((e+h:X):Z)=Y (f.getD (e+h) 0):=hG aa;have a4:h≠0->0<=f.getD (e+h-1) 0:=λV=>by
      have U:∀j:X,e<=j->j<e+h->0<=f.getD j 0:=by
       intro j
       induction j with
       |zero=>
        grind
       |succ j K=>
        intro D E;have I:=(n (j+1) D E).1;by_cases w:((j+1:X):Z)=d.getD b 0
        ·omega
        grind
      exact U _ aa aa
     refine ae.aO (P:=λk=>match k with
      |.inl _=>((if((e+h:X):Z)=d.getD b 0 then-1 else f.getD (e+h-1) 0)<f.getD (e+h) 0/\f.getD (e+h) 0<(c:Z))
      |.inr m=>m=.inr (.inr (.inr (.inr ((1:Z),()))))/\¬((if((e+h:X):Z)=d.getD b 0 then-1 else f.getD (e+h-1) 0)<f.getD (e+h) 0/\f.getD (e+h) 0<(c:Z))) ?_ ?_
     ·refine ae.bs C ?_;by_cases F:f.getD (e+h) 0<0
      ·rw[aH F];refine bv.2 ⟨bn,λl=>?_⟩;omega
      rw[aD F];refine ae.bs C ?_;by_cases L:f.getD (e+h) 0>=(c:Z)
      ·grind [bv,aH]
      rw[aD L];refine ae.bs G ?_;by_cases V:h=0
      ·rw[aD (aa:¬((e+h:X):Z)>(e:Z))];refine bv.2 ⟨?_,aa⟩;omega
      rw[aH (aa:((e+h:X):Z)>(e:Z))];have al:ay (((e+h:X):Z)-1)=((e+h-1:X):Z):=(by rw[cG aa aa];omega);refine ae.bs C (ae.bs (y:=f.getD (e+h-1) 0) (by rw[al];exact hG aa) ?_);rw[c7];refine ae.ite (λw=>?_) λw=>?_
      ·refine bv.2 ⟨bn,λl=>?_⟩;omega
      refine bv.2 ⟨?_,aa⟩;omega
     rintro(k|k) s
     ·refine bv.2 ⟨by rw[bg aa];rfl,?_⟩;intro j D E;rcases cU j (e+h) with T|T
      ·grind
      obtain rfl:j=e+h:=aa;omega
     obtain⟨rfl,I⟩:=s;exact bv.2 ⟨bn,λl=>I (l (e+h) aa aa)⟩
    rintro _ ⟨rfl,n⟩;dsimp only;refine ae.bs H ?_;rw[a2 (aD (aa:¬(((e+(o-e):X):Z)<(o:Z))))];refine bv.2 ?_;intro j D E;simp_all
   grind [bv,cn]
  rintro _ ⟨rfl,x⟩;simp_all [bv,a2,aD]
 rintro(k|k) s
 ·have s:(∀b,b<a->kR (c:Z) d f b):=s;have N:gM c a d f g:=gM.iff.2 ⟨A,q,M,u,B,s⟩;refine ae.bs (afu S R) ?_;unfold gI;rw[au N];by_cases n:oD g
  ·rw[alg n,au n];grind [bv]
  rw[alK n,ar n];grind [bv]
 grind [bv,gM.iff]
abbrev cY:=Z×Z×Z×bt
variable{s:bm cY}
def jt (b d:ala) (c:Z) (a:X):X->bm cY
 |0=>[]
 |n+1=>jt b d c a n++[(b.getD (a+n) 0,c,d.getD (a+n) 0,())]
def c0 (a b c:ala):X->bm cY
 |0=>[]
 |j+1=>c0 a b c j++jt b c (j:Z) (a.getD j 0).toNat ((a.getD (j+1) 0).toNat-(a.getD j 0).toNat)
theorem OT (c f:ala) (d:Z) (e a:X):(jt c f d e a).length=a:=by
 induction a with
 |zero=>rfl
 |succ a b=>simp[jt,b]
def gM.pos (e:gM c a d f g):∀b,b<=a->0<=d.getD b 0:=λb=>by
 have:=e.first
 induction b with
 |zero=>omega
 |succ b h=>intro i;have:=h aa;have:=e.mono b aa;omega
theorem gM.si (h:gM c a f d g):∀b,b<=a->f.getD b 0<=(d.length:Z):=by
 have k:∀e b,b+e=a->f.getD b 0<=(d.length:Z):=λe=>by
  have:=h.last
  induction e with
  |zero=>grind
  |succ e j=>intro b i;have:=j (b+1) aa;have:=h.mono b aa;omega
 exactλb i=>k (a-b) b aa
theorem A5 (e:gM c a d f g):∀b,b<=a->(c0 d f g b).length=(d.getD b 0).toNat:=λb=>by
 induction b with
 |zero=>intro _;have:=e.first;show 0=(d.getD 0 0).toNat;omega
 |succ b h=>
  intro k;have i:=h aa;have j:=e.mono b aa;grind [alO,OT,c0]
theorem I8 (e:gM c a g d f) (p:a<=200) (r:d.length<=10000):xW (((c:Z),(a:Z),g,d,f,()),())=Y (c0 g d f a,()):=by
 unfold xW;refine bO.1 ?_;dsimp only;refine ae.aO (P:=λk=>k=(c0 g d f a,())) ?_ (by grind [bv]);refine ae.steps a (λb l=>l=((b:Z),c0 g d f b,())) rfl ?_ ?_
 ·rintro b _ n rfl;have s:=e.len;obtain⟨i,o⟩:=ald (e.pos b aa);obtain⟨h,m⟩:=ald (e.pos (b+1) aa);have t:h<=d.length:=(by have:=e.si (b+1) aa;omega);have u:i<=h:=(by have:=e.mono b n;omega);have q:=A5 e b aa;have w:=e.val;dsimp only;rw[a7 (aH (aa:(b:Z)<(a:Z))),bg aa];refine ae.bs (y:=(i:Z)) (by rw[hG aa,o]) ?_;refine ae.aO (P:=λk=>k=(c0 g d f (b+1),())) ?_ (by grind [bv]);refine ae.steps (h-i) (λj l=>l=(((i+j:X):Z),c0 g d f b++jt d f (b:Z) i j,())) (by simp[jt]) ?_ ?_
  ·rintro j _ v rfl;dsimp only;refine ae.bs (y:=(h:Z)) (by rw[hG aa,m]) ?_;rw[a7 (aH (aa:((i+j:X):Z)<(h:Z)))];refine ae.bs (hG aa) (ae.bs (hG aa) ?_);rw[e3 (by grind [OT])];refine bv.2 ?_;rw[bg aa,amD];rfl
  rintro _ rfl;dsimp only;refine ae.bs (y:=(h:Z)) (by rw[hG aa,m]) ?_;simp_all [bv,a2,aD,c0,jt]
 rintro _ rfl;dsimp only;rw[a2 (aD (aa:¬((a:Z)<(a:Z))))];grind [bv]
structure iW (rows eO:X) (st i6 nO:ala):Prop where
 hr:rows<=200
 hc:eO<=200
 hi:i6.length<=10000
 hs:st.length<=1000000
 hv:nO.length<=1000000
 hw:∀v∈nO,fh v
def iW.check (b:iW c a f d g):tz (((c:Z),(a:Z),f,d,g,()),())=Y (gI c a f d g,()):=aag b.hr b.hc b.hi b.hs b.hv b.hw
def iW.yX (b:iW c a f d g):r6 (((c:Z),(a:Z),f,d,g,()),())=Y (gI c a f d g,()):=ae8 b.hr b.hc b.hi b.hs b.hv b.hw
theorem kE:gI c a g f d=0↔gM c a g f d/\oD d:=by unfold gI;grind
def UO (b:iW c a f d g) (e:gI c a f d g=0):DV (((c:Z),(a:Z),f,d,g,()),())=Y (c0 f d g a,()):=by unfold DV;refine ai b.check ?_;dsimp only;rw[e,fQ,aH bn];exact ai (I8 (kE.1 e).1 b.hc b.hi) rfl
theorem Sx (b:iW c a f d g) (i:gI c a f d g=0):AT (((c:Z),(a:Z),f,d,g,()),())=Y (c0 f d g a,()):=by have e:=(kE.1 i).1;have h:=I8 e b.hc b.hi;unfold xW at h;unfold AT;refine ai b.yX ?_;grind
def hB (a b:cY):Prop:=a.2.1<b.2.1\/(a.2.1=b.2.1/\a.1<b.1)
def wc {i:cY}:i∈jt d f b c a↔∃e,e<a/\i=(d.getD (c+e) 0,b,f.getD (c+e) 0,()):=by
 induction a with
 |zero=>simp[jt]
 |succ a l=>
  simp only[jt,g0,l,gq];constructor
  ·rintro(⟨e,k,g⟩|j)
   ·exact⟨e,aa,g⟩
   exact⟨a,aa,j⟩
  rintro⟨e,k,g⟩;rcases cU e a with h|h
  ·exact .inl ⟨e,h,g⟩
  obtain rfl:e=a:=aa;exact .inr g
def XG (h:∀g e,g<e->e<a->d.getD (c+g) 0<d.getD (c+e) 0):(jt d f b c a).Pairwise hB:=by
 induction a with
 |zero=>exact ans
 |succ a m=>
  refine aqI.2 ⟨m λg e i p=>h g e i aa,List.pairwise_singleton _ _,?_⟩;intro n j o k;obtain⟨e,l,rfl⟩:=wc.1 j;rw[gq.1 k];exact .inr ⟨bn,h e a l aa⟩
def Bz {h:cY}:h∈c0 d f g a↔∃b,b<a/\h∈jt f g (b:Z) (d.getD b 0).toNat ((d.getD (b+1) 0).toNat-(d.getD b 0).toNat):=by
 induction a with
 |zero=>simp[c0]
 |succ a k=>
  simp only[c0,g0,k];constructor
  ·rintro(⟨b,j,c⟩|i)
   ·exact⟨b,aa,c⟩
   exact⟨a,aa,i⟩
  rintro⟨b,j,c⟩;rcases cU b a with e|e
  ·exact .inl ⟨b,e,c⟩
  obtain rfl:b=a:=aa;exact .inr c
def tH (k:gM c a d f g):∀b,b<=a->(c0 d f g b).Pairwise hB:=by
 intro b
 induction b with
 |zero=>intro _;exact ans
 |succ b q=>
  intro p;have C:=k.pos b aa;have D:=k.pos (b+1) p;refine aqI.2 ⟨q aa,XG ?_,?_⟩
  ·intro h i v w;have s:∀e,h+e<(d.getD (b+1) 0).toNat-(d.getD b 0).toNat->0<e->f.getD ((d.getD b 0).toNat+h) 0<f.getD ((d.getD b 0).toNat+(h+e)) 0:=by
    intro e
    induction e with
    |zero=>intro _ y;omega
    |succ e r=>
     intro x _;have m:=k.asc b ((d.getD b 0).toNat+(h+(e+1))) aa aa aa;rw[(aa:(d.getD b 0).toNat+(h+(e+1))-1=(d.getD b 0).toNat+(h+e))] at m;rcases oK e with j|j
     ·subst j;exact m
     have:=r aa j;omega
   have:=s (i-h) aa aa;rwa[(aa:h+(i-h)=i)] at this
  intro t l u o;obtain⟨n,z,l⟩:=Bz.1 l;obtain⟨i,A,rfl⟩:=wc.1 l;obtain⟨E,B,rfl⟩:=wc.1 o;exact .inl (by show(n:Z)<(b:Z);omega)
def adT (a b:Z):Dd ([a,b],())=Y (if a≠0 then a else b,()):=by
 unfold Dd;refine bO.1 ?_;dsimp only;refine ae.aO (P:=λf=>match f with|.inl _=>a=0/\b=0|.inr k=>k=(if a≠0 then a else b,())) ?_ ?_
 ·refine ae.steps 2 (λd l=>l=((d:Z),())/\(1<=d->a=0)/\(2<=d->b=0)) ⟨bn,λh=>by omega,λh=>by omega⟩ ?_ ?_
  ·rintro d _ m ⟨rfl,g,i⟩;rcases(aa:d=0\/d=1) with rfl|rfl
   ·show ae (bif a !=0 then _ else _) _;rw[fQ];by_cases c:a=0
    ·rw[aH c];exact bv.2 ⟨bn,λ_=>c,λh=>by omega⟩
    rw[aD c];refine bv.2 ?_;rw[au c]
   show ae (bif b !=0 then _ else _) _;have j:=g ab;rw[fQ];by_cases c:b=0
   ·rw[aH c];exact bv.2 ⟨bn,λ_=>j,λ_=>c⟩
   rw[aD c];refine bv.2 ?_;rw[ar (by simpa using j)]
  rintro _ ⟨rfl,g,i⟩;exact bv.2 ⟨g ab,i ab⟩
 rintro(f|f) e
 ·obtain⟨rfl,rfl⟩:a=0/\b=0:=e;exact bv.2 bn
 have e:f=_:=e;rw[e];exact bv.2 bn
def OM {a b:cY} (c:hB a b):xX (b,a,())=Y (1,()):=by
 unfold xX;refine ai (C9 _ _) (ai (C9 _ _) (ai (adT _ _) ?_));dsimp only;congr 2;unfold gb;rcases c with c|⟨e,d⟩
 ·rw[ar (aa:¬b.2.1<a.2.1),au c];rfl
 rw[ar (aa:¬b.2.1<a.2.1),ar (aa:¬a.2.1<b.2.1),ar ac,ar (aa:¬b.1<a.1),au d]
def JJ (i:s.length<=1000) (e:s.Pairwise hB) {lo hi:X} (f:lo<=hi) (g:hi<=s.length):AD (s,(lo:Z),(hi:Z),(),())=Y (s,()):=by
 unfold AD;refine bO.1 ?_;dsimp only;refine ae.aO (P:=λc=>c=(s,())) ?_ (by rintro _ rfl;exact bv.2 bn);refine ae.steps (hi-lo-1) (λa b=>b=(((lo+1+a:X):Z),s,())) (by rw[bg aa]) ?_ ?_
 ·rintro a _ h rfl;dsimp only;rw[a7 (aH (aa:((lo+1+a:X):Z)<(hi:Z)))];refine ae.aO (P:=λc=>c=(s,())) ?_ (by rintro _ rfl;refine bv.2 ?_;dsimp only;rw[bg aa];rfl);refine ae.steps 0 (λ_ b=>b=(((lo+1+a:X):Z),s,())) rfl (λa b hi=>by omega) ?_;rintro _ rfl;dsimp only;refine ae.bs (y:=.inr (.inr (s,()))) ?_ (bv.2 bn);rw[aH (aa:((lo+1+a:X):Z)>(lo:Z))];have al:ay (((lo+1+a:X):Z)-1)=((lo+a:X):Z):=(by rw[cG aa aa];omega);rw[alJ,bF,iE aa,al,iE aa];have d:hB s[lo+a] s[lo+1+a]:=cA.1 e _ _ aa aa aa;exact ai (OM d) rfl
 rintro _ rfl;dsimp only;rw[a2 (aD (aa:¬((lo+1+(hi-lo-1):X):Z)<(hi:Z)))];exact bv.2 bn
def agK (u:s.length=21) (m:s.Pairwise hB):Ee (s,0,20,21,(),())=Y (s,()):=by
 unfold Ee;refine bO.1 ?_;dsimp only;rw[a2 ab,a7 ab];refine ae.aO (P:=λh=>h=(20,s,())) ?_ ?_
 ·refine ae.steps 4 (λd g=>g=((([0,11,16,19,20]:ak9).getD d 0:Z),20,s,())) rfl ?_ ?_
  ·rintro d _ v rfl;have f:∀c a:X,c<20->a<20->eQ bD (aL (ay ((c:Z)+20))) 1=Y (a:Z)->ay (a:Z)=(a:Z)->aQ (a:Z)=((a+1:X):Z)->
    ae (
     bif br ((c:Z)<20) then(eQ bD (aL (ay ((c:Z)+20))) 1).bind λi=>
     rd s 20 λo=>rd s (ay i) λp=>(xX (o,p,())).bind λ(n,_)=>
      (bif !(br (n<0)) then Y (.inl (aQ (ay i),20,s,())) else bo) else Y (.inr ((c:Z),s,())))
     (λe=>e=Sum.inl (((a+1:X):Z),(20:Z),s,())):=by
    intro c a q r j k l;rw[a7 (aH aa),j,bN,k,show(20:Z)=((20:X):Z) from rfl,iE aa,iE aa];refine ae.bs (OM (cA.1 m _ _ aa aa aa)) ?_;dsimp only;rw[a7 ab,l];exact bv.2 bn
   rcases(by omega:d=0\/d=1\/d=2\/d=3) with rfl|rfl|rfl|rfl
   ·exact(f 0 10 ab ab ab ab ab).mono λe b=>by rw[b];rfl
   ·exact(f 11 15 ab ab ab ab ab).mono λe b=>by rw[b];rfl
   ·exact(f 16 18 ab ab ab ab ab).mono λe b=>by rw[b];rfl
   exact(f 19 19 ab ab ab ab ab).mono λe b=>by rw[b];rfl
  rintro _ rfl;exact bv.2 bn
 rintro _ rfl;dsimp only;refine ae.aO (P:=λh=>h=(s,())) ?_ (by rintro _ rfl;exact bv.2 bn);refine ae.steps 0 (λ_ g=>g=(20,s,())) rfl (λw g t=>by omega) ?_;rintro _ rfl;exact bv.2 bn
def ago (l:s.length<=21) (d:s.Pairwise hB):DZ (s,())=Y (s,()):=by
 unfold DZ;refine ai (y:=(s,())) ?_ ?_
 ·unfold IC;have f:((cN (([]:bm cY).length+s.length)).bind λ_=>Y (([]++s:bm cY),()))=Y (s,()):=by
   rw[e3 (by simp;omega)];rfl
  show ss s.length (Y ([],())) ((cN (([]:bm cY).length+s.length)).bind λ_=>Y (([]++s:bm cY),()))=_;unfold ss;rw[f];split
  ·rename_i h;obtain rfl:=rC h;rw[au bn]
  rfl
 refine ai (y:=(s,())) ?_ bn;unfold II;refine ai (y:=(s,())) ?_ bn;unfold IK;refine bO.1 ?_;dsimp only;by_cases j:s.length<20
 ·refine ae.aO (P:=λb=>b=(0,s,())) ?_ ?_
  ·refine ae.steps 0 (λ_ a=>a=(0,20,s,())) rfl (λg a e=>by omega) ?_;rintro _ rfl;dsimp only;rw[a2 (aD (show¬((20:Z)<=ao s) by simp only[bb];omega))];exact bv.2 bn
  rintro _ rfl;refine ae.bs (JJ (lo:=0) aa d (Nat.zero_le _) (cf _)) ?_;refine ae.aO (P:=λb=>b=(s,())) ?_ (by rintro _ rfl;exact bv.2 bn);refine ae.steps 0 (λ_ a=>a=(20,s,())) rfl (λg a e=>by omega) ?_;rintro _ rfl;dsimp only;rw[a2 (aD (show¬((20:Z)<ao s) by simp only[bb];omega))];exact bv.2 bn
 refine ae.aO (P:=λb=>b=(20,s,())) ?_ ?_
 ·refine ae.steps 1 (λc a=>a=((20*(c:Z)),20+20*(c:Z),s,())) rfl ?_ ?_
  ·rintro c _ i rfl;obtain rfl:c=0:=aa;dsimp only;rw[a7 (aH (show(20:Z)+20*((0:X):Z)<=ao s by simp only[bb];omega))];refine ae.bs (JJ (lo:=0) (hi:=20) aa d (Nat.zero_le _) aa) ?_;exact bv.2 bn
  rintro _ rfl;dsimp only;rw[a2 (aD (show¬((20:Z)+20*((1:X):Z)<=ao s) by simp only[bb];omega))];exact bv.2 bn
 rintro _ rfl;refine ae.bs (JJ (lo:=20) aa d aa (bc _)) ?_;refine ae.aO (P:=λb=>b=(s,())) ?_ (by rintro _ rfl;exact bv.2 bn);by_cases k:s.length=20
 ·refine ae.steps 0 (λ_ a=>a=(20,s,())) rfl (λg a e=>by omega) ?_;rintro _ rfl;dsimp only;rw[a2 (aD (show¬((20:Z)<ao s) by simp only[bb];omega))];exact bv.2 bn
 refine ae.steps 1 (λc a=>a=(20+20*(c:Z),s,())) rfl ?_ ?_
 ·rintro c _ i rfl;obtain rfl:c=0:=aa;dsimp only;rw[a7 (aH (show(20:Z)+20*((0:X):Z)<ao s by simp only[bb];omega))];refine ae.aO (P:=λb=>b=(0,s,())) ?_ ?_
  ·refine ae.steps 0 (λ_ a=>a=(0,40,s,())) rfl (λg a e=>by omega) ?_;rintro _ rfl;dsimp only;rw[a2 (aD (show¬((40:Z)<=ao s) by simp only[bb];omega))];exact bv.2 bn
  rintro _ rfl;refine ae.bs (y:=(s,())) ?_ (bv.2 bn);dsimp only;have f:ao s=21:=(by rw[bb];omega);rw[f,a7 (aH (ab:ay (0+(20+20*((0:X):Z)))<21))];exact ai (agK aa d) rfl
 rintro _ rfl;dsimp only;rw[a2 (aD (show¬((20:Z)+20*((1:X):Z)<ao s) by simp only[bb];omega))];exact bv.2 bn
def jV (E:bm cY) (a:Z):X:=(E.filter λb=>br (b.2.1=a)).length
def hd (E:bm cY) (a:Z):X:=(E.filter λb=>br (b.2.1<a)).length
def sn (d b:X) (E:bm cY):da:=((d:Z),(b:Z),az (b+1) (λc=>(hd E (c:Z):Z)),E.map (λa=>a.1),E.map (λa=>a.2.2.1),())
theorem Ik (E:bm cY) (a:Z):hd E (a+1)=hd E a+jV E a:=by
 unfold hd jV
 induction E with
 |nil=>rfl
 |cons b E d=>
  simp only[mh];rcases Int.lt_trichotomy b.2.1 a with c|c|c
  ·rw[au (by simpa using(by omega:b.2.1<a+1)),au (by simpa using c),ar (by simpa using(by omega:¬b.2.1=a))];simp only[iH];omega
  ·rw[au (by simpa using(by omega:b.2.1<a+1)),ar (by simpa using(by omega:¬b.2.1<a)),au (by simpa using c)];simp only[iH];omega
  rw[ar (by simpa using(by omega:¬b.2.1<a+1)),ar (by simpa using(by omega:¬b.2.1<a)),ar (by simpa using(by omega:¬b.2.1=a))];omega
def lN (c b:X) (E:bm cY):Prop:=∀a∈E,0<=a.1/\a.1<(c:Z)/\0<=a.2.1/\a.2.1<(b:Z)
def N6 (E:bm cY) (c:cY) (a:Z):jV (E++[c]) a=jV E a+if c.2.1=a then 1 else 0:=by
 unfold jV;rw[oG,hI];congr 1;by_cases b:c.2.1=a
 ·rw[au b,Hr (by simpa using b)];rfl
 rw[ar b,Hq (by simpa using b)];rfl
def Wo {E:bm cY} (C:c<=200) (B:a<=200) (n:E.length<=21) (y:E.Pairwise hB) (t:lN c a E):DX ((c:Z),(a:Z),E,())=Y (sn c a E,()):=by
 unfold DX;refine bO.1 ?_;dsimp only;rw[bg aa];refine ae.bs (im aa) (ae.bs (ago n y) ?_);dsimp only;refine ae.aO (P:=λr=>r=(((0:Z),((0:Z),([],([],([],()))))),((c:Z),(a:Z),az (a+1) (λb=>if b=0 then(0:Z) else(jV E ((b:Z)-1):Z)),E.map (λe=>e.1),E.map (λe=>e.2.2.1),()),())) ?_ ?_
 ·refine ae.steps E.length (λd s=>s=((d:Z),((0:Z),((0:Z),([],([],([],()))))),((c:Z),(a:Z),az (a+1) (λb=>if b=0 then(0:Z) else(jV (E.take d) ((b:Z)-1):Z)),(E.take d).map (λe=>e.1),(E.take d).map (λe=>e.2.2.1),()),E,())) ?_ ?_ ?_
  ·have j:(az (a+1) λ_=>(0:Z))=az (a+1) λb=>if b=0 then(0:Z) else(jV (E.take 0) ((b:Z)-1):Z):=df λb l=>by split<;>rfl
   rw[jk,j];rfl
  ·rintro d _ k rfl;have q:=t E[d] (b6 k);obtain⟨i,w⟩:=ald q.2.2.1;dsimp only;rw[a7 (aH (show(d:Z)<ao E by simp only[bb];omega)),iE k];have al:aQ E[d].2.1=((i+1:X):Z):=(by rw[w,bg aa]);have p:E.take (d+1)=E.take d++[E[d]]:=(by rw[ali,bX k];rfl);rw[e3 (by simp;omega),bN,e3 (by simp;omega),bN,al];refine ae.bs (e9 (by rw[cI];omega)) (ae.bs (gT aa) (ae.bs (e9 (by rw[cI];omega)) ?_));rw[gT aa];refine bv.2 ?_;have o:(az (a+1) (λb=>if b=0 then(0:Z) else(jV (E.take d) ((b:Z)-1):Z))).set (i+1) (aQ (if i+1=0 then(0:Z) else(jV (E.take d) (((i+1:X):Z)-1):Z)))=az (a+1) (λb=>if b=0 then(0:Z) else(jV (E.take (d+1)) ((b:Z)-1):Z)):=by
    rw[ho];refine df λb l=>?_;have m:∀g,jV (E.take d) g<=21:=λg=>cO (lS _ _) (by rw[gu];omega);by_cases f:b=i+1
    ·subst f;rw[gH,ar aa,ar aa,bg (by have:=m (((i+1:X):Z)-1);omega),p,N6,au aa]
    rw[g6 _ _ f];by_cases h:b=0
    ·rw[au h,au h]
    rw[ar h,ar h,p,N6,ar aa,ml]
   dsimp only[anc];rw[bg aa,o,p,List.map_append,List.map_append];rfl
  rintro _ rfl;dsimp only;rw[a2 (aD (show¬((E.length:Z)<ao E) by simp only[bb];omega)),ch (cf _)];exact bv.2 bn
 rintro _ rfl;dsimp only;refine ae.aO (P:=λr=>r=(((0:Z),((0:Z),([],([],([],()))))),sn c a E,())) ?_ (by rintro _ rfl;exact bv.2 bn);have x:∀g,hd E g<=21:=λg=>cx (alF _ _) n;have m:∀g,jV E g<=21:=λg=>cx (alF _ _) n;have v:hd E 0=0:=by
  unfold hd;rw[CA.2]
  ·rfl
  intro e q;have:=t e q;simpa using this.2.2.1
 refine ae.steps a (λd s=>s=((d:Z),((0:Z),((0:Z),([],([],([],()))))),((c:Z),(a:Z),az (a+1) (λb=>if b<=d then(hd E (b:Z):Z) else(jV E ((b:Z)-1):Z)),E.map (λe=>e.1),E.map (λe=>e.2.2.1),()),())) ?_ ?_ ?_
 ·have j:(az (a+1) λb=>if b=0 then(0:Z) else(jV E ((b:Z)-1):Z))=az (a+1) (λb=>if b<=0 then(hd E (b:Z):Z) else(jV E ((b:Z)-1):Z)):=df λb l=>by
   by_cases f:b=0
   ·subst f;rw[au bn,au (bc _)];show(0:Z)=((hd E 0:X):Z);rw[v];rfl
   rw[ar f,ar aa]
  rw[j];rfl
 ·rintro d _ k rfl;dsimp only;rw[a7 (aH (aa:(d:Z)<(a:Z))),bg aa,iE (by rw[cI];omega),iE (by rw[cI];omega),k1,k1];refine ae.bs (e9 (by rw[cI];omega)) ?_;rw[gT aa];refine bv.2 ?_;have o:(az (a+1) (λb=>if b<=d then(hd E (b:Z):Z) else(jV E ((b:Z)-1):Z))).set (d+1) (ay ((if d+1<=d then(hd E ((d+1:X):Z):Z) else(jV E (((d+1:X):Z)-1):Z))+(if d<=d then(hd E (d:Z):Z) else(jV E ((d:Z)-1):Z))))=az (a+1) (λb=>if b<=d+1 then(hd E (b:Z):Z) else(jV E ((b:Z)-1):Z)):=by
   rw[ho];refine df λb l=>?_;by_cases f:b=d+1
   ·subst f;have u:=Ik E (d:Z);have z:=m (d:Z);have A:=x (d:Z);rw[gH,ar aa,au (bc _),au (bc _),(aa:(((d+1:X):Z)-1)=(d:Z)),cG aa aa,(aa:((d+1:X):Z)=(d:Z)+1),u];omega
   rw[g6 _ _ f];by_cases h:b<=d
   ·rw[au h,au aa]
   rw[ar h,ar aa]
  dsimp only[anc];rw[o]
 rintro _ rfl;dsimp only;rw[a2 (aD (aa:¬((a:Z)<(a:Z))))];have j:az (a+1) (λb=>if b<=a then(hd E (b:Z):Z) else(jV E ((b:Z)-1):Z))=az (a+1) (λb=>(hd E (b:Z):Z)):=df λb l=>(by rw[ca aa]);rw[j];exact bv.2 bn
def hn (b c:Z) (a:cY):bz:=br (a.2.1<b)||(br (a.2.1=b)&&br (a.1<c))
theorem Nt {a c:cY} (d:hB a c) (h:hn e b c=bp):hn e b a=bp:=by
 unfold hn at*;simp only[jK,cF,alB] at*;rcases d with d|⟨f,g⟩
 ·omega
 omega
theorem O9 {j i:Z}:∀{E:bm cY},E.Pairwise hB->E.filter (hn j i)=E.take (E.filter (hn j i)).length
 |[],_=>rfl
 |x::E,b=>by
  obtain⟨d,c⟩:=nq.1 b;by_cases a:hn j i x=bp
  ·rw[Hr a,iH,List.take_succ_cons];exact b3 _ (O9 c)
  grind [List.filter_eq_nil_iff,Nt,List.filter_cons_of_neg]
theorem H2 {E:bm cY} (d:lN c a E):E.filter (hn 0 0)=[]:=by refine CA.2 λf e b=>?_;have:=d f e;unfold hn at b;grind
theorem V7 {E:bm cY} (d:lN a c E) (b:Z):E.filter (hn b (a:Z))=E.filter (hn (b+1) 0):=by refine qo λf e=>?_;have:=d f e;unfold hn;grind
theorem C0 {E:bm cY} (d:lN c a E) (b:Z):(E.filter (hn b 0)).length=hd E b:=by unfold hd;congr 1;refine qo λf e=>?_;have:=d f e;unfold hn;grind
theorem H3 {j i:Z} {E:bm cY} (c:E.Pairwise hB) (h:a<E.length):hn j i E[a]=bp↔a<(E.filter (hn j i)).length:=by
 constructor
 ·intro b;have g:∀d∈E.take (a+1),hn j i d=bp:=by
   grind [Nt,cA,cn,anR]
  grind [alD,arq,anS,amN]
 intro b;have e:=O9 (j:=j) (i:=i) c;have f:E[a]∈E.filter (hn j i):=(by grind [anR]);grind
theorem V8 {j i:Z} {E:bm cY} (o:E.Pairwise hB):(∃d:(E.filter (hn j i)).length<E.length,E[(E.filter (hn j i)).length].1=i/\E[(E.filter (hn j i)).length].2.1=j/\(E.filter (hn j (i+1))).length=(E.filter (hn j i)).length+1)\/((∀b,(d:b<E.length)->¬(E[b].1=i/\E[b].2.1=j))/\(E.filter (hn j (i+1))).length=(E.filter (hn j i)).length):=by
 have p:∀e:cY,hn j (i+1) e=bp↔hn j i e=bp\/(e.1=i/\e.2.1=j):=λe=>(by unfold hn;grind);have w:∀e:cY,e.1=i/\e.2.1=j->¬hn j i e=bp:=λe k d=>(by simp_all [jK,cF,alB,hn]);generalize C:(E.filter (hn j i)).length=g;generalize D:(E.filter (hn j (i+1))).length=l;have q:∀a,(f:a<E.length)->(hn j i E[a]=bp↔a<g):=λa f=>(by grind [H3]);have m:∀a,(f:a<E.length)->(hn j (i+1) E[a]=bp↔a<l):=λa f=>(by grind [H3]);have F:g<=E.length:=(by grind);have G:l<=E.length:=(by grind);by_cases n:∃b,∃d:b<E.length,E[b].1=i/\E[b].2.1=j
 ·obtain⟨b,h,k⟩:=n;have x:¬b<g:=λd=>w _ k ((q b h).2 d);have y:b<l:=(m b h).1 ((p _).2 (.inr k));have r:∀a,(f:a<E.length)->g<=a->a<l->a=b:=λa f A t=>by
   have u:=(p _).1 ((m a f).2 t);have B:E[a].1=i/\E[a].2.1=j:=u.resolve_left λd=>(by grind);rcases sY a b with c|c|c
   ·have:=iz.1 o a b f h c;rcases this with d|⟨d,s⟩<;>omega
   ·exact c
   have:=iz.1 o b a h f c;rcases this with d|⟨d,s⟩<;>omega
  have v:g=b:=r g aa (bc _) aa;subst v;refine .inl ⟨h,k.1,k.2,?_⟩;rcases cU (g+1) l with c|c
  ·grind
  omega
 refine .inr ⟨λb h k=>n ⟨b,h,k⟩,?_⟩;have z:∀a,a<E.length->(a<l↔a<g):=λa f=>(by grind);rcases sY l g with c|c|c
 ·grind
 ·exact c
 grind
def pb (b:X) (a:cY):X:=a.2.1.toNat*b+a.1.toNat
theorem aeq {E:bm cY} (d:lN a c E) {b:cY} (e:b∈E):pb a b<a*c:=by have f:=d b e;unfold pb;have g:(b.2.1.toNat+1)*a<=c*a:=gj _ aa;grind
theorem aep {rows:X} {a b:Z×Z} (f:0<=a.1/\a.1<(rows:Z)/\0<=a.2) (g:0<=b.1/\b.1<(rows:Z)/\0<=b.2) (c:a.2.toNat*rows+a.1.toNat=b.2.toNat*rows+b.1.toNat):a.1=b.1/\a.2=b.2:=by have d:(a.2.toNat*rows+a.1.toNat)/rows=a.2.toNat:=(by rw[j6,apB aa,aot aa,ml]);have e:(b.2.toNat*rows+b.1.toNat)/rows=b.2.toNat:=(by rw[j6,apB aa,aot aa,ml]);grind
def oW (b:X) (E:bm cY):X->X->Z
 |0,_=>0
 |i+1,a=>if a=pb b (E.getD i (0,0,0,())) then((i+1:X):Z) else oW b E i a
theorem NN (c:X) (E:bm cY) (b:X):∀i,(oW c E i b=0/\∀a,a<i->pb c (E.getD a (0,0,0,()))≠b)\/∃a,a<i/\pb c (E.getD a (0,0,0,()))=b/\oW c E i b=((a+1:X):Z)
 |0=>.inl ⟨bn,λa e=>absurd e aa⟩
 |i+1=>by
  unfold oW;by_cases d:b=pb c (E.getD i (0,0,0,()))
  ·grind
  rw[ar d];rcases NN c E b i with⟨f,g⟩|⟨a,f,g,h⟩
  ·grind
  grind
theorem WC (b:X) (E:bm cY) (a:X):eG (oW b E a) (pb b (E.getD a (0,0,0,()))) ((a+1:X):Z)=oW b E (a+1):=by grind [oW,eG]
theorem Sf (e:c<=200) (d:a<=200) (g:j<=200):ay (ay ((a:Z)*(c:Z))+(j:Z))=((a*c+j:X):Z):=by have f:a*c<=200*200:=nr d e;have b:(a:Z)*(c:Z)=((a*c:X):Z):=aa;rw[b,Cl aa,<-Int.natCast_add,Cl aa]
theorem Jy {E:bm cY} (b:a<E.length):E.getD a (0,0,0,())=E[a]:=by grind
def ki (E:bm cY) (b a:Z):X:=(E.filter (hn b a)).length
def Sa (E:bm cY) (b a:Z):ki E b a<=E.length:=lS _ _
def p1 (e d:X) (E:bm cY) (a:X) (c:X):da:=((e:Z),(d:Z),az (a+1) (λa=>(hd E (a:Z):Z)),(E.take c).map (λb=>b.1),(E.take c).map (λb=>b.2.2.1),())
theorem ad5 {f:X} {E:bm cY} (x:c<=200) (D:f<=200) (T:E.length<=10000) (J:E.Pairwise hB) (k:lN c f E):ED ((c:Z),(f:Z),E,())=Y (sn c f E,()):=by
 unfold ED;refine bO.1 ?_;dsimp only;have am:c*f<=200*200:=Nat.mul_le_mul x D;have A:ay ((c:Z)*(f:Z))=((c*f:X):Z):=(by rw[<-amM,Cl aa]);rw[A];refine ae.bs (im aa) ?_;have O:hd E 0=0:=(by rw[<-C0 k,H2 k];rfl);refine ae.aO (P:=λm=>m=(((0:Z),((0:Z),([],([],([],()))))),p1 c f E 0 0,az (c*f) (oW c E E.length),())) ?_ ?_
 ·refine ae.steps E.length (λe n=>n=((e:Z),((0:Z),((0:Z),([],([],([],()))))),p1 c f E 0 0,az (c*f) (oW c E e),())) ?_ ?_ ?_
  ·have:p1 c f E 0 0=((c:Z),((f:Z),([0],(([]:bi),(([]:bi),()))))):=by
    grind [o3,X6,hd,p1]
   rw[jk,this];rfl
  ·rintro e _ l rfl;have h:=k E[e] (b6 l);obtain⟨M,R⟩:=ald h.1;obtain⟨N,S⟩:=ald h.2.2.1;dsimp only;rw[a7 (aH (show(e:Z)<ao E by grind))];refine ae.bs (eT l) (ae.bs (eT l) ?_);have I:ay (ay (E[e].2.1*(c:Z))+E[e].1)=((pb c E[e]:X):Z):=by
    grind [Sf,alL,pb]
   have V:=aeq k (cL l);grind [bv,lI,cI,ho,bg,Jy,WC]
  rintro _ rfl;dsimp only;rw[a2 (aD (show¬((E.length:Z)<ao E) by grind))];grind [bv]
 rintro _ rfl;dsimp only;refine ae.aO (P:=λm=>m=(((0:Z),((0:Z),([],([],([],()))))),sn c f E,())) ?_ (by grind [bv]);refine ae.steps f (λd n=>n=((d:Z),((0:Z),((0:Z),([],([],([],()))))),p1 c f E d (ki E (d:Z) 0),az (c*f) (oW c E E.length),())) ?_ ?_ ?_
 ·have:ki E ((0:X):Z) 0=0:=by
   unfold ki;grind [H2]
  grind
 ·rintro d _ F rfl;dsimp only;rw[a7 (aH (aa:(d:Z)<(f:Z)))];refine ae.aO (P:=λm=>m=(((0:Z),((0:Z),([],([],([],()))))),p1 c f E d (ki E (d:Z) (c:Z)),az (c*f) (oW c E E.length),())) ?_ ?_
  ·refine ae.steps c (λe n=>n=((e:Z),((0:Z),((0:Z),([],([],([],()))))),p1 c f E d (ki E (d:Z) (e:Z)),az (c*f) (oW c E E.length),())) rfl ?_ ?_
   ·rintro e _ l rfl;dsimp only;rw[a7 (aH (aa:(e:Z)<(c:Z))),Sf x aa aa];have I:d*c+e<c*f:=by
     have p:(d+1)*c<=f*c:=gj _ F;grind
    rw[iE (by grind [cI]),k1];have w:=Sa E (d:Z) (e:Z);have q:=V8 (j:=(d:Z)) (i:=(e:Z)) J;change(∃o:ki E (d:Z) (e:Z)<E.length,E[ki E (d:Z) (e:Z)].1=(e:Z)/\E[ki E (d:Z) (e:Z)].2.1=(d:Z)/\ki E (d:Z) ((e:Z)+1)=ki E (d:Z) (e:Z)+1)\/((∀u,(o:u<E.length)->¬(E[u].1=(e:Z)/\E[u].2.1=(d:Z)))/\ki E (d:Z) ((e:Z)+1)=ki E (d:Z) (e:Z)) at q;rw[show(e:Z)+1=((e+1:X):Z) from by omega] at q;generalize ki E (d:Z) (e:Z)=z at*;rw[bg aa];have G:∀g,(o:g<E.length)->pb c E[g]=d*c+e->E[g].1=(e:Z)/\E[g].2.1=(d:Z):=(by intro g o ad;have h:=k E[g] (cL o);exact aep (rows:=c) (a:=(E[g].1,E[g].2.1)) (b:=((e:Z),(d:Z))) ⟨h.1,h.2.1,h.2.2.1⟩ ⟨aa,aa,aa⟩ (by grind [pb]));rcases NN c E (d*c+e) E.length with⟨L,av⟩|⟨g,t,y,K⟩
    ·rw[L];rcases q with⟨p,s,B,C⟩|⟨p,s⟩
     ·grind [alL,Jy,pb,absurd]
     rw[a2 (aD aa)];grind [bv,ae.bs]
    rw[K];rw[Jy t] at y;obtain⟨ax,ap⟩:=G g t y;rcases q with⟨p,s,B,C⟩|⟨p,s⟩
    ·have H:g=z:=by
      rcases sY g z with r|r|r
      ·grind [cA,hB]
      ·exact r
      grind [cA,hB]
     subst H;rw[a7 (aH aa),(aa:((g+1:X):Z)-1=(g:Z)),Cl aa];unfold p1;dsimp only;rw[e3 (by grind),bN];have an:E.take (g+1)=E.take g++[E[g]]:=(by simp_all);rw[eT t,bN,e3 (by grind),bN,bN];grind [bv]
    grind
   rintro _ rfl;dsimp only;rw[a2 (aD (aa:¬((c:Z)<(c:Z))))];grind [bv]
  rintro _ rfl;have w:=Sa E (d:Z) (c:Z);have al:ki E (d:Z) (c:Z)=ki E ((d+1:X):Z) 0:=(by grind [V7,ki]);have Q:ki E ((d+1:X):Z) 0=hd E ((d+1:X):Z):=C0 k _;rw[al] at w|-;unfold p1;dsimp only;have U:ao ((E.take (ki E ((d+1:X):Z) 0)).map λv=>v.1)=(hd E ((d+1:X):Z):Z):=(by grind);grind [bv,e3,cI,o3,bg]
 rintro _ rfl;dsimp only;rw[a2 (aD (aa:¬((f:Z)<(f:Z))))];have al:ki E (f:Z) 0=E.length:=(by unfold ki;rw[amN.2];intro v h;have:=k v h;simp_all [Bool.or_eq_true,Bool.and_eq_true,alB,hn]);have:p1 c f E f (ki E (f:Z) 0)=sn c f E:=(by simp_all [ch,cf,p1,sn]);grind [bv]
theorem xu {h:X} {E:bm cY} (g:E.Pairwise hB) (e:lN h c E) (f:a<E.length) (b:Z):E[a].2.1<b↔a<hd E b:=by have d:=H3 (j:=b) (i:=0) g f;rw[C0 e] at d;rw[<-d];have:=e E[a] (cL f);unfold hn;grind
theorem N1 {E:bm cY} (b:lN c a E):hd E 0=0:=by rw[<-C0 b,H2 b];rfl
theorem N0 {E:bm cY} (b:lN c a E):hd E (a:Z)=E.length:=by unfold hd;rw[mU.2];intro e d;have:=b e d;grind
theorem X3 {b:X->Z} (d:a<c):(az c b).getD a 0=b a:=by grind [gV]
theorem Fs {E:bm cY} (c:a<E.length):(E.map λb=>b.1).getD a 0=E[a].1:=by grind
theorem YE {E:bm cY} (c:a<E.length):(E.map λb=>b.2.2.1).getD a 0=E[a].2.2.1:=by grind
def wN (a:X) (E:bm cY):ala:=az (a+1) (λb=>(hd E (b:Z):Z))
theorem wO {E:bm cY} (b:a<=c):(wN c E).getD a 0=(hd E (a:Z):Z):=X3 aa
theorem Ij (E:bm cY) (a:Z):hd E a<=E.length:=lS _ _
theorem agC {E:bm cY} (i:E.Pairwise hB) (d:lN c a E):gM c a (wN a E) (E.map λj=>j.1) (E.map λj=>j.2.2.1) where
 len:=cI _ _
 first:=by rw[wO (eJ _)];grind [N1]
 mono:=λe k=>by grind [wO,Ik]
 last:=by rw[wO (bc _),N0 d,dh]
 val:=by simp
 rng:=λe f k g h=>by rw[wO aa] at g h;have b:f<E.length:=(by grind [Ij]);rw[Fs b];have:=d E[f] (cL b);omega
 asc:=λe f k g h=>by rw[wO aa] at g h;have b:f<E.length:=(by grind [Ij]);rw[Fs b,Fs aa];have l:=xu i d b (e:Z);have m:=xu i d b ((e+1:X):Z);have n:=xu i d (aa:f-1<E.length) (e:Z);grind [cA,xu,hB]
theorem TD {rows eO:X} {E:bm cY} (c:rows<=200) (b:eO<=200) (f:E.length<=10000) (e:∀a∈E,fh a.2.2.1):iW rows eO (wN eO E) (E.map λa=>a.1) (E.map λa=>a.2.2.1) where
 hr:=c
 hc:=b
 hi:=by grind
 hs:=by grind [cI,wN]
 hv:=by grind
 hw:=λg d=>by grind
def I7 (c f:ala) (d:Z) (b a:X):jt c f d b a=az a λe=>(c.getD (b+e) 0,d,f.getD (b+e) 0,()):=by
 induction a with
 |zero=>rfl
 |succ a g=>rw[jt,g,o3]
theorem XH {E:bm cY} (i:E.Pairwise hB) (h:lN c a E):∀b,b<=a->c0 (wN a E) (E.map λf=>f.1) (E.map λf=>f.2.2.1) b=E.take (hd E (b:Z)):=by
 intro b
 induction b with
 |zero=>
  intro _;show[]=E.take (hd E 0);grind [N1]
 |succ b q=>
  intro t;rw[c0,q aa,wO aa,wO aa,I7,fP,fP];have n:hd E ((b+1:X):Z)=hd E (b:Z)+jV E (b:Z):=(by grind [Ik]);have o:=Ij E ((b+1:X):Z);have j:∀d,(e:d<E.length)->hd E (b:Z)<=d->d<hd E ((b+1:X):Z)->E[d].2.1=(b:Z):=λd e l m=>(by have r:=xu i h e (b:Z);have s:=xu i h e ((b+1:X):Z);omega);rw[n] at j o|-;generalize hd E (b:Z)=k at*;generalize jV E (b:Z)=g at*;rw[sX,List.take_add];congr 1;have p:((E.drop k).take g).length=g:=(by grind);refine anF (by rw[cI,p]) λu l m=>?_;grind [k1,Fs,YE,cI]
def OU {E:bm cY} (e:E.Pairwise hB) (d:lN c a E):c0 (wN a E) (E.map λb=>b.1) (E.map λb=>b.2.2.1) a=E:=by rw[XH e d a (bc _),N0 d,fU (bc _)]
theorem Yd {E:bm cY} (b:∀a∈E,bh a.2.2.1≠2047):oD (E.map λa=>a.2.2.1):=by intro d c;grind
def NS {E:bm cY} (f:E.Pairwise hB) (e:lN c a E) (d:∀b∈E,bh b.2.2.1≠2047):gI c a (wN a E) (E.map λb=>b.1) (E.map λb=>b.2.2.1)=0:=
 kE.2 ⟨agC f e,Yd d⟩
theorem tG (e:gM c a d f g):lN c a (c0 d f g a):=by intro n h;obtain⟨b,i,h⟩:=Bz.1 h;obtain⟨j,k,rfl⟩:=wc.1 h;have l:=e.pos b aa;have m:=e.pos (b+1) aa;have:=e.rng b ((d.getD b 0).toNat+j) i aa aa;grind
theorem tI (b:gM c a g f d) {i:Z->Prop} (m:∀k∈d,i k):∀j∈c0 g f d a,i j.2.2.1:=by intro j h;obtain⟨e,l,h⟩:=Bz.1 h;obtain⟨s,n,rfl⟩:=wc.1 h;have q:=b.pos e aa;have r:=b.pos (e+1) aa;have o:=b.si (e+1) aa;have p:=b.val;grind
theorem Jh (b:oD d):∀a∈d,bh a≠2047:=by intro a e;obtain⟨f,c,rfl⟩:=g8.1 e;have:=b f c;grind
def ub (a:cY):bz:=br (a.1>=a.2.1)
def gW (E:bm cY):bm cY:=E.filter ub
def Bu {E:bm cY} (a:E.Pairwise hB):(gW E).Pairwise hB:=aqJ uS a
def Bt {E:bm cY} (b:lN c a E):lN c a (gW E):=λe d=>b e (h1.1 d).1
def Z4 {E:bm cY}:∀a∈gW E,a.2.1<=a.1:=λa b=>by have:=(h1.1 b).2;unfold ub at this;simpa using this
def TY {b:m->bz} {E:bm m} (d:a<E.length):(E.take (a+1)).filter b=(E.take a).filter b++(if b E[a]=bp then[E[a]] else[]):=by
 rw[jP,cE d,oG];congr 1;show[E[a]].filter b=_;by_cases c:b E[a]=bp
 ·rw[au c,Hr c];rfl
 rw[ar c,Hq c];rfl
def Kw:∀(a:ak9) (b:X),a.Pairwise (· < ·)->(∀x∈a,x<b)->a.length<=b
 |[],_,_,_=>eJ _
 |x::a,b,i,d=>by
  obtain⟨c,j⟩:=nq.1 i;have p:=d x ac;have:=Kw (a.map λf=>f-(x+1)) (b-(x+1)) (by
   rw[nW];refine rz ?_ j;intro h m k o n;have:=c h k;omega) (by
   intro f l;obtain⟨g,e,rfl⟩:=eS.1 l;have:=c g e;have:=d g (by simp[e]);omega)
  rw[dh] at this;rw[iH];omega
def KH (a:Z):Z:=if a=0 then 0 else if a=1 then 5 else if a=2 then 9 else if a=3 then 12 else if a=4 then 14 else 15
def Z6 (s:a<=6) {E:bm cY} (o:E.Pairwise hB) (c:lN a a E) (d:∀b∈E,b.2.1<=b.1):E.length<=21:=by
 have m:=Kw (E.map λb=>(KH b.2.1+b.1).toNat) 21 (by
  rw[nW];refine rz ?_ o;intro e f g h n;have k:=c e g;have q:=c f h;have l:=d e g;have r:=d f h;unfold hB at n;unfold KH;split<;>split<;>(try split)<;>(try split)<;>(try split)<;>(try split)<;>(try split)<;>(try split)<;>(try split)<;>(try split)<;>omega) (by
  intro t p;obtain⟨j,i,rfl⟩:=eS.1 p;have k:=c j i;have l:=d j i;unfold KH;split
  ·omega
  split
  ·omega
  split
  ·omega
  split
  ·omega
  split<;>omega)
 rwa[dh] at m
structure mR (n:X) (st i6 nO:ala):Prop where
 BE:n<=7
 el:(gW (c0 st i6 nO n)).length<=21
def mR.aa3 (c:a<=6) (b:gI a a f d g=0):mR a f d g:=
 ⟨aa,cO (Z6 c (Bu (tH (kE.1 b).1 a (bc _))) (Bt (tG (kE.1 b).1)) Z4) ab⟩
def mR.F1 (c:a<=5) (b:gI a a f d g=0):mR a f d g:=mR.aa3 (cO c ab) b
def U2 (j:mR a f d g) (b:iW a a f d g) (l:gI a a f d g=0):DW (((a:Z),(a:Z),f,d,g,()),())=Y (sn a a (gW (c0 f d g a)),0,()):=by
 have h:=(kE.1 l).1;have m:=tH h a (cf _);have n:=tG h;have s:=j.el;have t:=j.BE;have r:(c0 f d g a).length<=10000:=(by rw[A5 h a (cf _)];have:=h.si a (cf _);have:=b.hi;omega);unfold DW;refine ai b.check ?_;dsimp only;rw[l,fQ,aH bn];refine ai (I8 h b.hc b.hi) ?_;dsimp only;generalize c0 f d g a=E at*;refine bO.1 ?_;refine ae.aO (P:=λo=>o=(((0:Z),((0:Z),([],([],([],()))))),gW E,())) ?_ ?_
 ·refine ae.steps E.length (λc p=>p=((c:Z),((0:Z),((0:Z),([],([],([],()))))),gW (E.take c),E,())) rfl ?_ ?_
  ·rintro c _ k rfl;dsimp only;rw[a7 (aH (show(c:Z)<ao E by simp only[bb];omega)),iE k,bg aa];have q:(gW (E.take c)).length<=10000:=cx (alF _ _) (by rw[alD];omega);unfold gW at*;rw[TY k];by_cases i:ub E[c]=bp
   ·have e:=i;unfold ub at e;rw[a7 e,au i,e3 (by simp only[iH,qs];omega)];exact bv.2 bn
   have e:=i;unfold ub at e;rw[a2 (by simpa using e),ar i,pq];exact bv.2 bn
  rintro _ rfl;dsimp only;rw[a2 (aD (show¬((E.length:Z)<ao E) by simp only[bb];omega)),ch (cf _)];exact bv.2 bn
 rintro _ rfl;dsimp only;exact ae.bs (Wo b.hr b.hc aa (Bu m) (Bt n)) (bv.2 bn)
def Sy (k:mR a f d g) (e:iW a a f d g) (j:gI a a f d g=0):vB (((a:Z),(a:Z),f,d,g,()),())=Y (sn a a (gW (c0 f d g a)),0,()):=by
 have i:=(kE.1 j).1;have m:=tH i a (cf _);have n:=tG i;have s:=k.el;have t:=k.BE;have r:(c0 f d g a).length<=10000:=(by rw[A5 i a (cf _)];have:=i.si a (cf _);have:=e.hi;omega);unfold vB;refine ai e.yX ?_;dsimp only;rw[j,fQ,aH bn];refine ai (Sx e j) ?_;dsimp only;generalize c0 f d g a=E at*;refine bO.1 ?_;refine ae.aO (P:=λo=>o=(((0:Z),((0:Z),([],([],([],()))))),gW E,())) ?_ ?_
 ·refine ae.steps E.length (λb p=>p=((b:Z),((0:Z),((0:Z),([],([],([],()))))),gW (E.take b),())) rfl ?_ ?_
  ·rintro b _ l rfl;dsimp only;rw[a7 (aH (show(b:Z)<ao E by simp only[bb];omega)),eT l,bg aa];have q:(gW (E.take b)).length<=10000:=cx (alF _ _) (by rw[alD];omega);unfold gW at*;rw[TY l];by_cases h:ub E[b]=bp
   ·have c:=h;unfold ub at c;rw[aI,aI,a7 c,au h,aI,e3 (by simp only[iH,qs];omega)];exact bv.2 bn
   have c:=h;unfold ub at c;rw[aI,aI,a2 (by simpa using c),ar h,pq];exact bv.2 bn
  rintro _ rfl;dsimp only;rw[a2 (aD (show¬((E.length:Z)<ao E) by simp only[bb];omega)),ch (cf _)];exact bv.2 bn
 rintro _ rfl;dsimp only;exact ae.bs (ad5 e.hr e.hc aa (Bu m) (Bt n)) (bv.2 bn)
def ks (b:eu) (a:ala):es:=(bI a.length).map λ(c:X)=>(bI a.length).map λ(d:X)=>br (a.getD d 0∈b.getD (a.getD c 0).toNat [])
theorem yp (b:eu) (a:ala):(ks b a).length=a.length:=by simp[ks]
theorem H5 (b:a<d.length) (e:c<d.length):hK (ks i d) a c=br (d.getD c 0∈i.getD (d.getD a 0).toNat []):=by grind [amk,hK,ks]
theorem agM (g:0<=b/\b<i.length) (h:0<=e/\e<i.length):∃a,aw (ph i) b=Y a/\aw a e=Y (br (e∈i.getD b.toNat [])):=by
 have d:b.toNat<i.length:=aa;have f:e.toNat<i.length:=aa;refine⟨(bI i.length).map λ(c:X)=>br ((c:Z)∈i[b.toNat]),?_,?_⟩
 ·simp_all [au,TX,aw]
 unfold aw;grind
theorem UY (B:fA i) (w:∀d∈i,d.length<4611686018427387904) (G:i.length<=200) (s:∀m∈d,0<=m/\m<(i.length:Z)) (D:d.Nodup) (R:d.length<=400):EG ((i,()),d,())=Y ((kc (ks i d),()),0,()):=by
 classical
 rw[<-bO];unfold EG;have C:jh i=0:=(by simp_all [ar,au,jh]);have al:br (∀m∈d,0<=m/\m<(i.length:Z))=bp:=alg s;have A:br (¬d.Nodup)=bq:=alK (λb=>b D);simp only[Ls i w,C,Vc d _ aa,al,Vj d aa,A,MN w G (λg K=>(B.asc g K).2),ON d.length aa,aI,apA,bP,iG];simp only[bZ];refine cw (P:=λu=>u.2.1=ks i d) ?_ ?_
 ·refine ae.for (i0:=0) d.length (λa v=>v.2.1=(bI d.length).map λ(g:X)=>if g<a then(ks i d).getD g [] else bJ d.length bq) rfl ?_ (eJ _) ?_ ?_
  ·apply ie;grind
  ·rintro a ⟨x,o,_⟩ _ j e;simp only at e;simp only[b0,bZ];refine⟨λ_=>?_,λp=>by grind⟩;refine cw (P:=λu=>u.2.1=(bI d.length).map λ(g:X)=>if g<a+1 then(ks i d).getD g [] else bJ d.length bq) ?_ (by grind [jo,bv]);refine ae.for (i0:=0) d.length (λc v=>v.2.1=o.set a ((bI d.length).map λ(h:X)=>if h<c then hK (ks i d) a h else bq)) rfl ?_ (eJ _) ?_ ?_
   ·show o=_;apply ie;intro f;rw[zC];by_cases l:a=f
    ·subst l;rw[au bn,e];simp[j,List.map_const']
    grind
   ·rintro c ⟨O,n,_⟩ _ r k;simp only at k;have L:=s _ (cL j);have M:=s _ (cL r);obtain⟨N,H,I⟩:=agM L M;have S:n.length=d.length:=(by grind);have q:a<n.length:=aa;have J:n[a]=(bI d.length).map λ(h:X)=>if h<c then hK (ks i d) a h else bq:=by
     grind
    have E:aw d (a:Z)=Y d[a]:=gJ (cE j);have F:aw d (c:Z)=Y d[c]:=gJ (cE r);simp only[b0,bZ,ae.Fx,E,F,H,I,bv,ae.CX,ae.Kh,fP];refine⟨λ_=>⟨⟨aa,q⟩,q,⟨aa,by grind⟩,q,by grind,jo aa,?_⟩,λp=>by grind⟩;rw[J,k,List.set_set];congr 1;apply ie;intro f;rw[zC,j3,j3];rcases cU f d.length with b|b
    ·rw[CB b];simp only[jr,dh,oI];by_cases l:c=f
     ·subst l;have y:d.getD c 0=d[c]:=(by grind);have z:d.getD a 0=d[a]:=(by grind);rw[au bn,au b,au aa,H5 j r,y,z]
     grind
    grind
   rintro⟨O,n,_⟩ k;simp only at k;simp only[b0,bv];refine⟨λp=>by grind,λ_=>?_⟩;rw[k,e];apply ie;intro f;rw[zC,j3,j3];rcases cU f d.length with b|b
   ·rw[CB b];simp only[jr,dh,oI];by_cases l:a=f
    ·subst l;rw[au bn,au b,au aa];congr 1;have:(ks i d).getD a []=(bI d.length).map λ(h:X)=>hK (ks i d) a h:=by
      have Q:(ks i d).getD a []=(bI d.length).map λ(c:X)=>br (d.getD c 0∈i.getD (d.getD a 0).toNat []):=(by simp[ks,amk,j]);grind [H5,alA]
     simp_all
    grind
   grind
  rintro⟨x,o,_⟩ e;simp only at e;simp only[b0,bv];refine⟨λp=>by grind,λ_=>?_⟩;rw[e];apply ie;intro f;rw[j3];rcases cU f d.length with b|b
  ·simp_all [au,cE,yp,jr,CB,amk]
  grind [am0,yp]
 rintro⟨x,o,_⟩ e;simp only at e;subst e;rw[Mx]
 ·grind [bv]
 ·intro N t;unfold ks at t;simp only[eS] at t;obtain⟨a,_,rfl⟩:=t;simp[ks]
 grind [yp]
section
inductive je (A:X->X->Prop) (P:X->Prop):X->X->Prop
 |one {i j:X}:A i j->je A P i j
 |step {i m j:X}:A i m->P m->je A P m j->je A P i j
section
variable {A:X->X->Prop} {P:X->Prop}
theorem je.trans (b:je A P c a) (e:P a) (d:je A P a j):je A P c j:=by
 induction b with
 |one b=>exact .step b e d
 |step b f _ g=>exact .step b f (g e d)
def je.symm (f:∀d e,A d e->A e d) (b:je A P a c):je A P c a:=by
 induction b with
 |one b=>exact .one (f _ _ b)
 |step b g _ h=>exact h.trans g (.one (f _ _ b))
theorem je.mono (f:∀d,P d->q d) (b:je A P a c):je A q a c:=by
 induction b with
 |one b=>exact .one b
 |step b e _ g=>exact .step b (f _ e) g
def je.insert_iff:je A (λf=>P f\/f=j) a c↔je A P a c\/(je A P a j/\je A P j c):=by
 constructor
 ·intro b
  induction b with
  |one b=>exact .inl (.one b)
  |@step a m c b g _ d=>
   rcases g with g|rfl
   ·rcases d with d|⟨l,h⟩
    ·exact .inl (.step b g d)
    exact .inr ⟨.step b g l,h⟩
   rcases d with d|⟨_,h⟩
   ·exact .inr ⟨.one b,d⟩
   exact .inr ⟨.one b,h⟩
 rintro(b|⟨i,k⟩)
 ·exact b.mono λf e=>.inl e
 exact(i.mono λf e=>.inl e).trans (.inr bn) (k.mono λf e=>.inl e)
def je.none:je A (λ_=>b4) a c↔A a c:=by
 constructor
 ·intro b;cases b with
  |one b=>exact b
  |step _ b _=>exact b.elim
 exact .one
theorem Ut:rQ A j a c↔je A (λf=>f<j) a c:=by
 constructor
 ·intro b
  induction b with
  |one b=>exact .one b
  |step b d _ e=>exact .step b d e
 intro b
 induction b with
 |one b=>exact .one b
 |step b d _ e=>exact .step b d e
end
end
section
theorem agq:∀{b a:ala},b.Pairwise (· < ·)->a.Pairwise (· < ·)->(∀c,c∈b↔c∈a)->b=a:=by
 intro b
 induction b with
 |nil=>
  intro a _ _ d;cases a with
  |nil=>rfl
  |cons e a=>grind [amE]
 |cons c b h=>
  intro a f g d;cases a with
  |nil=>grind
  |cons e a=>
   grind [amE,ant]
structure zu (nA:eu) (S:X->Prop) (T:es) (gone:ak6):Prop where
 GY:T.length=nA.length
 rows:∀v,(h:v<T.length)->T[v].length=nA.length
 vT:gone.length=nA.length
 Pv:∀v,(h:v<gone.length)->(gone[v]=bp↔S v)
 L3:∀u w,(ah9:u<T.length)->(hw:w<T[u].length)->¬S u->¬S w->(T[u][w]=bp↔u≠w/\je (kl nA) S u w)
def l4 (b:es) (c:ak6) (e d:X):ala:=((bI d).filter λa=>hK b e a&&!c.getD a bq).map λ(a:X)=>(a:Z)
theorem Kj (a:zu i q n r) {v w:X} (k:v<i.length) (f:¬q v):(w:Z)∈l4 n r v i.length↔w<i.length/\¬q w/\v≠w/\je (kl i) q v w:=by
 unfold l4;simp only[eS,h1,fN,cF,uK];have l:∀w,w<i.length->((hK n v w=bp/\r.getD w bq=bq)↔¬q w/\v≠w/\je (kl i) q v w):=by
  intro w g;have d:v<n.length:=(by rw[a.GY];exact k);have e:w<n[v].length:=(by rw[a.rows v d];exact g);have h:w<r.length:=(by rw[a.vT];exact g);have j:r.getD w bq=r[w]:=(by grind);rw[xy d e,j,Bool.eq_false_iff,ne_eq,a.Pv w h];constructor
  ·rintro⟨b,c⟩;exact⟨c,(a.L3 v w d e f c).1 b⟩
  rintro⟨b,c⟩;exact⟨(a.L3 v w d e f b).2 c,b⟩
 grind
theorem Kx (b:es) (c:ak6) (d a:X):(l4 b c d a).length<=a:=by grind [cx,alF,b9,l4]
theorem Ky (e:b∈l4 n r c a):∃d:X,b=(d:Z)/\d<a:=by grind [l4]
theorem ME (l:n.length=c) (w:∀a,(e:a<n.length)->n[a].length=c) (o:r.length=c) (u:c<=4294967296) (x:a<c):AY (Y (n,r,()),(a:Z),())=Y (l4 n r a c,()):=by
 rw[<-bO];unfold AY;have t:hN=4294967296:=rfl;simp only[bZ,bv];refine cw (P:=λd=>d.1=l4 n r a c) ?_ (by grind);refine ae.for (i0:=0) c (λi k=>k.1=l4 n r a i) rfl rfl (eJ _) ?_ ?_
 ·rintro b ⟨j,_⟩ _ y f;simp only at f;have v:=Kx n r a b;simp only[aI];rw[b0];refine⟨λ_=>?_,λm=>by grind⟩;rw[bZ,bZ];have g:a<n.length:=aa;have h:b<n[a].length:=(by grind);have p:aw n (a:Z)=Y n[a]:=gJ (cE g);have q:aw n[a] (b:Z)=Y n[a][b]:=gJ (cE h);have s:aw r (b:Z)=Y (r.getD b bq):=gJ (by grind);refine cw (P:=λd=>d=((hK n a b&&!r.getD b bq),j,())) ?_ ?_
  ·simp_all [bZ,b0,bv,xy]
  rintro _ rfl;simp only[b0,bZ,bv,am4];refine⟨λe=>⟨by grind,jo aa,?_⟩,λe=>⟨jo aa,?_⟩⟩
  ·simp_all [au,mh,aov,jq,oG,jC,l4]
  simp_all [jq,oG,jC,mh,aov,ar,l4]
 simp_all [aI,b0,bv]
theorem Wb (e:a<n.length) (f:c<n[a].length) (b d:X):hK (n.set a (n[a].set c bp)) b d=(hK n b d||(b==a&&d==c)):=by grind [hK]
theorem QX (a:es) (b:ak6) (d c:X):(l4 a b d c).Pairwise (· < ·):=LK _ _
theorem UN (K:n.length=a) (O:∀c,(g:c<n.length)->n[c].length=a) (ap:r.length=a) (av:a<=4294967296) (a0:c<a):ae (AX ((n,r,()),(c:Z),())) (λq=>q.1.2.1=r.set c bp/\q.1.1.length=a/\(∀c,(g:c<q.1.1.length)->q.1.1[c].length=a)/\∀d b,d<a->b<a->(hK q.1.1 d b=bp↔hK n d b=bp\/((d:Z)∈l4 n r c a/\(b:Z)∈l4 n r c a/\d≠b))):=by
 unfold AX;simp only[ME K O ap av a0,aI];have am:=Kx n r c a;have E:∀I∈l4 n r c a,∃b:X,I=(b:Z)/\b<a:=λI Q=>Ky Q;have an:=QX n r c a;generalize l4 n r c a=f at am E an;have a3:∀l m:X,(g:l<f.length)->(ad:m<f.length)->f[l]=f[m]->l=m:=λl m g ad J=>by
  rcases sY l m with C|C|C
  ·grind [cA]
  ·exact C
  grind [cA]
 simp only[bZ];refine cw (P:=λe:dI×bt=>e.1.2.1=r/\e.1.1.length=a/\(∀c,(g:c<e.1.1.length)->e.1.1[c].length=a)/\∀d b,d<a->b<a->(hK e.1.1 d b=bp↔hK n d b=bp\/((d:Z)∈f/\(b:Z)∈f/\d≠b))) ?_ ?_
 ·refine ae.for (i0:=0) f.length (λh e=>e.1.2.1=r/\e.1.1.length=a/\(∀c,(g:c<e.1.1.length)->e.1.1[c].length=a)/\∀d b,d<a->b<a->(hK e.1.1 d b=bp↔hK n d b=bp\/((d:Z)∈f.take h/\(b:Z)∈f/\d≠b))) rfl ⟨bn,K,O,λd b _ _=>by simp⟩ (eJ _) ?_ ?_
  ·rintro h ⟨⟨R,S,_⟩,_⟩ _ H ⟨s,t,u,D⟩;simp only at s t u D;simp only[b0,bZ];refine⟨λ_=>?_,λM=>by grind⟩;refine cw (P:=λe:dI×bt=>e.1.2.1=r/\e.1.1.length=a/\(∀c,(g:c<e.1.1.length)->e.1.1[c].length=a)/\∀d b,d<a->b<a->(hK e.1.1 d b=bp↔hK n d b=bp\/((d:Z)∈f.take (h+1)/\(b:Z)∈f/\d≠b))) ?_ (by grind [jo,bv]);obtain⟨j,L,bl⟩:=E _ (cL H);refine ae.for (i0:=0) f.length (λk e=>e.1.2.1=r/\e.1.1.length=a/\(∀c,(g:c<e.1.1.length)->e.1.1[c].length=a)/\∀d b,d<a->b<a->(hK e.1.1 d b=bp↔hK n d b=bp\/((d:Z)∈f.take h/\(b:Z)∈f/\d≠b)\/(d=j/\(b:Z)∈f.take k/\d≠b))) rfl ⟨s,t,u,λd b x y=>by grind⟩ (eJ _) ?_ ?_
   ·rintro k ⟨⟨A,T,_⟩,_⟩ _ w ⟨i,o,p,z⟩;simp only at i o p z;obtain⟨B,F,bs⟩:=E _ (cL w);have U:aw f (h:Z)=Y (j:Z):=gJ (by rw[cE H,L]);have V:aw f (k:Z)=Y (B:Z):=gJ (by rw[cE w,F]);have v:j<A.length:=aa;have G:B<A[j].length:=(by grind);simp only[b0,bZ,U,V,bv,ae.Fx,ae.CX,ae.Kh,fP];refine⟨λ_=>⟨λN=>⟨⟨aa,v⟩,v,⟨aa,G⟩,v,G,jo aa,i,by grind,λI Q=>?_,λd b x y=>?_⟩,λbx=>⟨jo aa,i,o,p,λd b x y=>?_⟩⟩,λM=>by grind⟩
    ·rw[aqK];grind
    ·have N:h≠k:=(by grind);have a4:j≠B:=λJ=>N (a3 h k H w (by rw[L,F,J]));rw[Wb v G,jK,z d b x y,<-uD w,F,g0,gq];grind
    grind [uD,alh]
   rintro⟨⟨A,T,_⟩,_⟩ ⟨i,o,p,z⟩;simp only at i o p z;simp only[b0,bv];refine⟨λM=>by grind,λ_=>⟨i,o,p,λd b x y=>?_⟩⟩;grind [cy,uD,alh]
  rintro⟨⟨R,S,_⟩,_⟩ ⟨s,t,u,D⟩;simp only at s t u D;simp only[b0,bv];grind
 grind [bZ,ae.Fx,ae.CX,bv,ae.Kh,alL]
theorem UM (F:fA i) (G:i.length<=4294967296) (b:zu i q n r) (k:a<i.length) (s:¬q a):ae (AX ((n,r,()),(a:Z),())) (λB=>zu i (λg=>q g\/g=a) B.1.1 B.1.2.1):=by
 refine(UN b.GY b.rows b.vT G k).mono ?_;rintro⟨⟨M,h,_⟩,_⟩ ⟨l,m,o,p⟩;simp only at l m o p|-;subst l;have v:=kl.symm F;refine⟨m,o,by rw[anI];exact b.vT,λg N=>?_,λc e H I t u=>?_⟩
 ·rw[aqK];by_cases J:a=g
  ·grind
  rw[ar J,b.Pv];grind
 have w:c<i.length:=aa;have y:e<i.length:=(by grind);have:=p c e w y;rw[xy H I] at this;have j:c<n.length:=(by rw[b.GY];omega);have x:e<n[c].length:=(by rw[b.rows c j];omega);have z:¬q c:=λd=>t (.inl d);have A:¬q e:=λd=>u (.inl d);have K:a≠c:=λd=>t (.inr d.symm);have L:a≠e:=λd=>u (.inr d.symm);rw[this,xy j x,b.L3 c e j x z A,Kj b k s,Kj b k s,je.insert_iff];constructor
 ·rintro(⟨h,f⟩|⟨⟨_,_,_,f⟩,⟨_,_,_,D⟩,E⟩)
  ·grind
  exact⟨E,.inr ⟨f.symm v,D⟩⟩
 rintro⟨h,f|⟨f,C⟩⟩
 ·grind
 exact .inr ⟨⟨w,z,K,f.symm v⟩,⟨y,A,L,C⟩,h⟩
theorem UG (e:fA i) (k:∀n∈i,n.length<4611686018427387904) (l:i.length<=200):ae (EH ((i,()),())) (λg=>zu i (λ_=>b4) g.1.1 g.1.2.1):=by
 unfold EH;have o:hN=4294967296:=rfl;simp only[MN k l (λc m=>(e.asc c m).2),aI,bZ,ae.Kg,bv,fP];refine⟨⟨aa,aa,aa⟩,LZ i,λc j=>?_,ac,λc j=>by simp,λb d p q _ _=>?_⟩
 ·simp[ph]
 rw[je.none];have f:b<i.length:=(by grind [LZ]);have r:d<i.length:=(by grind [ph]);have h:(ph i)[b][d]=br ((d:Z)∈i[b]):=(by grind [ph,amk]);rw[h,alB];constructor
 ·exactλa=>⟨kl.ne e ⟨f,a⟩,f,a⟩
 exactλa=>a.2.2
open Classical in
theorem afn (j:fA i) (k:∀s∈i,s.length<4611686018427387904) (p:i.length<=200):AZ ((i,()),())=Y ((bI i.length).map (he i),0,()):=by
 rw[<-bO];unfold AZ;have A:hN=4294967296:=rfl;have n:jh i=0:=(by simp_all [ar,au,jh]);simp only[Ls i k,n,aI,apA,bP];simp only[bZ];refine(UG j k p).mono ?_;rintro⟨⟨f,g,_⟩,_⟩ c;simp only at c;simp only[bZ];refine cw (P:=λt=>t.1=(bI i.length).map (he i)) ?_ (by grind [bv]);refine ae.for (i0:=0) i.length (λa h=>h.2.1=(bI a).map (he i)/\zu i (λl=>l<a) h.1.1 h.1.2.1) rfl ⟨bn,?_⟩ (eJ _) ?_ ?_
 ·grind
 ·rintro a ⟨⟨f,g,_⟩,C,_⟩ _ e ⟨q,c⟩;simp only at q c;have B:=Kx f g a i.length;have y:[(a:Z)]++l4 f g a i.length=he i a:=by
   have o:=λd=>Kj c (v:=a) (w:=d) e (amS a);refine agq ?_ (N7 i a) ?_
   ·rw[zG,nq];grind [Ky,QX]
   intro l;constructor
   ·intro b;rw[zG,fF] at b;rcases b with rfl|b
    ·exact wb.2 ⟨e,.inl bn⟩
    obtain⟨d,rfl,_⟩:=Ky b;have:=(o d).1 b;exact wb.2 ⟨this.1,.inr ⟨aa,Ut.2 this.2.2.2⟩⟩
   intro b;rw[zG,fF];have r:=b;unfold he vh at b;simp only[eS] at b;obtain⟨d,_,rfl⟩:=b;obtain⟨u,m|⟨m,x⟩⟩:=wb.1 r
   ·omega
   grind [Ut]
  rw[b0];refine⟨λ_=>?_,λz=>by grind⟩;simp only[ME c.GY c.rows c.vT (aa:i.length<=4294967296) e,aI,bZ,am4];refine⟨by grind,by grind,?_⟩;refine(UM j aa c e (amS a)).mono ?_;grind [alG,jo,bv]
 simp_all [b0,bv]
end
def V0 (c:d.Pairwise (· < ·)) (e:∀g∈d,0<=g):∀a,(b:a<d.length)->(a:Z)<=d[a]:=by
 intro a
 induction a with
 |zero=>intro b;exact e _ (cL b)
 |succ a f=>
  intro b;have h:=f aa;have i:=BR.1 c a b;omega
def rv.length {a:ala} {c:X} (b:rv a c):a.length<=c:=by
 rcases oK a.length with d|d
 ·omega
 have g:=V0 b.1 (λf e=>(b.2 f e).1) (a.length-1) aa;have h:=(b.2 _ (cL (aa:a.length-1<a.length))).2;omega
def fA.rows (b:fA i):∀a∈i,a.length<=i.length:=by intro a c;obtain⟨e,d,rfl⟩:=g8.1 c;exact(b.asc e d).length
def fA.hc (b:fA i) (d:i.length<=200):∀a∈i,a.length<4611686018427387904:=λa c=>by have:=b.rows a c;omega
def ve:jh i=0↔i.length<=200/\fA i:=by
 unfold jh;by_cases a:200<i.length
 ·rw[au a];constructor
  ·intro a;omega
  intro a;omega
 rw[ar a];by_cases b:fA i
 ·rw[au b];exact⟨λ_=>⟨aa,b⟩,λ_=>rfl⟩
 rw[ar b];exact⟨λa=>by omega,λa=>absurd a.2 b⟩
def R4 (a:eu) (b:X):Z:=((he a b)[1]?).getD (-1)
section
def NZ (P:X->Prop):X->X
 |0=>0
 |k+1=>NZ P k+(open Classical in if P k then 1 else 0)
section
variable {P Q:X->Prop} {k:X}
end
def Hw (n:X) (f:X->Z):Prop:=∀a,a<n->f a=-1\/((a:Z)<f a/\f a<n)
def Vd (n:X) (f:X->Z) (a b:X):Prop:=a<n/\f a=(b:Z)
def Sub (n:X) (f:X->Z) (a b:X):Prop:=CP (Vd n f) a b
section
variable {n:X} {f:X->Z} (A:Hw n f)
include A
def iu (n:X) (f:X->Z) (b:X):X:=NZ (λa=>Sub n f a b) n
def UJ (n:X) (f:X->Z):Prop:=∀a,a<n->∀b,Sub n f b a->a<b+iu n f a
end
end
section
section
variable {B:eu} (C:fA B) (A:B.length<=200)
include C A
end
def aaX (b:ala) (n a:X):Z:=(b[a+1]?).getD n
section
variable {n:X} {f:X->Z} (D:Hw n f) (A:n<=200)
include D A
end
end
section
theorem WP (A:eu) (a:X):(he A a).length<=A.length:=WN A a A.length
section
variable {A:eu} (B:fA A) (C:A.length<=200)
include B C
end
end
section
section
variable {A:eu} (B:fA A) (C:A.length<=200)
include B C
theorem afo:AZ ((A,()),())=Y (az A.length (he A),0,()):=afn B (B.hc C) C
end
end
section
structure MI (n:X) (f:X->Z) (LO:ala) (m:X) (s e:X->X):Prop where
 len:LO.length=m
 st:LO=az m λk=>(s k:Z)
 Ti:0<n->0<m/\s 0=0
 aia:n=0->m=0
 ok:∀k,k<m->s k<e k/\e k<=n/\e k<=s k+iu n f (e k-1)
 aQ:∀k,k<m->aaX LO n k=(e k:Z)
 ahX:∀k,k+1<m->e k=s (k+1)
 el:∀k,k+1=m->e k=n
section
variable {A:eu} (B:fA A) (C:A.length<=200)
include B C
end
end
section
def iN (s:X->X) (a:X):X->Z
 |0=>-1
 |k+1=>if s k<=a then(k:Z) else iN s a k
abbrev eE:=Z×dP
section
variable {n:X} {f:X->Z} {B:ala} {m:X} {s e:X->X} (C:MI n f B m s e)
include C
end
section
variable {A:eu} (D:fA A) (F:A.length<=200)
include D F
end
end
def U5:∀a:X,a<201->DU (1,(a:Z),())=Y (0,(a:Z),()):=by unfold DU;decide+kernel
def Vg (c:Z) (t:0<a) (u:a<=200):D8 ([c],(a:Z),())=Y (bJ a c,()):=by
 unfold D8;have al:bD.wrap (a:Z)=(a:Z):=(by rw[Uv];omega);have m:bD.wrap ((1:X):Z)=1:=(by rw[Uv];rfl);have r:¬((a:Z)<0):=aa;have p:¬((a:Z)>9223372036854775807):=aa;simp only[c7,ar r,aI,IA,al,m,U5 a aa,Da,(aa:¬((0:Z)>0)),alV,aD p,bP,He (aa:a<9223372036854775808),im (aa:a<=4294967296),sW,nU,amv];rw[<-bO];refine ae.aO (P:=λl=>l.1=bJ a c) ?_ (by rintro⟨l,⟨⟩⟩ g;simp only at g;subst g;exact bv.2 bn);have s:∀b:X,b<=a->bJ b c++bJ (a-b) 0=az a (λd=>if d<b then c else 0):=λb i=>(by rw[jk,jk,A7];have:b+(a-b)=a:=aa;rw[this]);refine alv (λf=>∃b:X,f.1=(b:Z)/\0<b/\b<=a/\f.2.1=az a (λd=>if d<b then c else 0)) (λf=>a-f.1.toNat) ⟨1,?_,aa,aa,?_⟩ ?_
 ·show((min 1 a:X):Z)=1;rw[hR aa];rfl
 ·show jW (bJ a 0) [c] 0 a=_;unfold jW;rw[hR (show[c].length<=a-0 by simp;omega),anN,fU (show[c].length<=a-0 by simp;omega),hx,aqA,jk];show[c]++az (a-1) (λ_=>0)=_;have:[c]=az 1 (λ_=>c):=rfl;rw[this,A7];have:1+(a-1)=a:=aa;rw[this]
 rintro⟨f,w,⟨⟩⟩ ⟨b,i,v,q,k⟩;simp only at i k;subst i k;simp only[cI];by_cases g:b<a
 ·simp(disch:=omega) only[au,wh,vZ,Lb,aI,jr,np,Fb,cI];refine bv.2 ⟨⟨b+min b (a-b),Uw aa,aa,aa,?_⟩,?_⟩
  ·show jW (az a λd=>if d<b then c else 0) (az b λd=>if d<b then c else 0) b a=_;unfold jW;have n:(az b λd=>if d<b then c else 0)=az b λ_=>c:=df λd h=>(by rw[au h]);have o:(az b λ(_:X)=>c).take (a-b)=az (min b (a-b)) λ_=>c:=by
    rcases Nat.le_total (a-b) b with e|e
    ·rw[Fb _ _ _ e,Nat.min_eq_right e]
    rw[fU (by rw[cI];exact e),hR e]
   rw[Fb _ _ _ q,cI,n,o,X2,A7,A7];have:b+(min b (a-b)+(a-(b+min b (a-b))))=a:=aa;rw[this];refine df λd h=>?_;by_cases e:d<b
   ·rw[au e,au aa]
   rw[ar e];by_cases j:d-b<min b (a-b)
   ·rw[au j,au aa]
   rw[ar j,ar aa,ar aa]
  show a-(bK.wrap ((b:Z)+((min b (a-b):X):Z))).toNat<a-(b:Z).toNat;rw[Uw aa];omega
 simp(disch:=omega) only[ar];refine bv.2 ?_;show _=_;rw[jk];exact df λd h=>by rw[au aa]
end Go.jN
end
