/-
  Parts of the proof: Pl3, Pl5, Th1, Pl6, Pl8, Pl9, Pl10, Pl12, ThT, Pa2, Pa3, Pa4, Pa5, Pa6, Pa7, Pa8, Pa9, Pa10, Pa11, Pa12, Pa13, Pa14, Pa15, Pa16, Pa17, Pa19, Pa20, Pa21, Pa22, Pa23, Pa24, Pa25, Pa26, Pa27, Pa28, Pa29, Pm1, Pm2, G41, Pm3, Pm4, Pm5, Pm6, Pm7, Pm8, Pm9, Pm10, Pm11, Pm12, Pl13, Th2, Pl16, Pl18, Th3, Pl20, Pl21, Pl22, Pl23, Pl24, Pl25, Pl26, Pl27, Pl29, Pl30, Pl32, Pl36, Pl40: the framework (Fw), pure forms (Dn), plain laws (Pl, Th), calls of functions (Ok).
-/
import Derived.Test.YthlmgdleldkpnaaGreatDoorRows
import Derived.ProofKit
import Derived.Lib.LaidTab
import Derived.LaidMore
import Derived.KernelRfl
import Derived.Test.YthlmgdleldkpnaaGreatDoorBdcf30368

set_option linter.all false
set_option maxHeartbeats 1000000
open _root_ renaming Nat->X,Int->Z,Bool->bD,Unit->bz,List->bp,Option->bv,False->b7,rfl->bq,decide_eq_true_eq->amV,decide_eq_true->amA,decide_eq_false->amT,of_decide_eq_true->aoH,Decidable->am9,beq_self_eq_true->am2,cond_true->bI,decide_eq_decide->amD,if_pos->cc,cond_false->bQ,if_neg->b6,bne_self_eq_false->aqC,congrArg->b9,decide_true->anu,if_true->cq,forall_const->aqG,implies_true->aqH,not_true_eq_false->aoq
open Go.j5.ah renaming loop->am3,eq_iff->bR,fu->b1,fN->b3,ai->bA,lL->amM,mono->cB,yK->aol
open Option renaming some->Y,bind->bE,none->br,bind_some->bT,map_some->aoS
open Decidable renaming decide->bw
open List renaming pairwise_iff_getElem->amx,getElem?_eq_getElem->bZ,getD->anF,getElem_mem->ca,mem_singleton->amF,range->bK,pairwise_lt_range->aqo,length_filter_le->am4,length_map->cb,range_succ->am7,mem_iff_getElem->ani,length_take->am5,take_add_one->amG,take_length->amy,replicate->bM,getElem?_eq_none->aoi,getElem?_take->ao0,take_of_length_le->amz,getLast?_eq_getElem?->arz,getElem_set_self->arD,drop->apr,length_drop->aqa,take_zero->aoP,drop_replicate->arJ,length_append->amX,append_assoc->aoo,pairwise_append->arN,map_append->aqD,filter_eq_nil_iff->apu,mem_take_iff_getElem->aoT,take_sublist->apv,filter_eq_self->an5,ext_getElem->aoJ,map_congr_left->amU,mem_cons_self->aop,pairwise_cons->aoz,filter_nil->apw,getElem_set->arP
open Nat renaming lt_or_ge->cw,le_trans->cC,and_le_left->aru,or_lt_two_pow->arv,and_two_pow_sub_one_eq_mod->aqp,add_comm->anO,div_add_mod->apb,two_pow_pos->anY,pow_lt_pow_right->arx,div_lt_iff_lt_mul->apa,le_div_iff_mul_le->aqq,mul_div_cancel->aqs,mul_le_mul_left->apm,pow_mul->aqt,le_refl->cj,eq_of_testBit_eq->arA,testBit_and->arB,testBit_two_pow->aqg,add_sub_cancel->aqv,blt->cg,sub_zero->aob,min_eq_left->aoL,mul_le_mul_right->aqz,div_eq_of_lt->apt,div_le_self->aoR,mod_lt->anT,mul_add_div->aqE
open Go.IntKind renaming u64->bG,wrap->aoj,signed->art,i64->bN,u32->ch,u8->aql
open Go.j5 renaming wrap64->cA
open List.Pairwise renaming filter->asq,nil->aoy,sublist->arO
open Bool renaming false->bu,true->bt,true_and->aoE
open Int renaming toNat_natCast->am8,fdiv_eq_ediv_of_nonneg->arw,neg_neg->apk,lt_or_le->anG,mul_nonneg->apl,le_of_lt->anj,le_total->ary,add_comm->apn,add_zero->aoN,emod_add_mul_ediv->aom,sub_zero->apo,zero_add->anZ,mul_lt_mul_of_pos_right->aqu,emod_emod_of_dvd->arC,mul_emod_left->apq,mul_emod_mul_of_pos->arE,mul_comm->aon,ediv_ediv_of_nonneg->arF,ediv_nonneg->an0,le_ediv_iff_mul_le->arG,mul_add->arH,mul_one->aoO,emod_lt_of_pos->aqw,emod_nonneg->aqy,mul_le_mul_of_nonneg_left->arI,lt_of_mul_lt_mul_left->arK,natCast_mul->anP,le_refl->anE,ediv_le_self->aoQ,pow_add->arL,zero_sub->arM,eq_ofNat_of_zero_le->cD,natAbs_neg->aps,natCast_ediv->aqA,natAbs_natCast->aqB,natCast_add->aqF
open BitVec renaming ofInt->cl
open Go.j5.fK renaming eq->aoM,zero->aqr
open Go.j5.a1 renaming nil->ana,n2->ans,append->aqx,cons->ant
open Go renaming IntKind->cn,World->bF,Addr->ck
open Go.Proofs.Tryz renaming prog->ct
open Go.World renaming cell?->anR
open Go.j5.ak renaming size->amW
open List.Sublist renaming filter->asr
open Option.some renaming injEq->anV
open List.Perm renaming refl->aoU
noncomputable section
namespace Go.j5
variable{a c k:X}{b e v:Z}{d f g:amv}{h u:Type}{i n:bD}{l:ez}{m o:amp}{p:ew}{q:Prop}{r:X->Prop}{s:amr}{w:(es×Z×Z×cR×bz)->Prop}{x:ev}{y:(es×Z×cR×bz)->Prop}
theorem ie (b:bp h) (a:X):az b (a:Z)=b[a]?:=by unfold az;simp
section
def rL (a:amv) (c:Z):Prop:=a.Pairwise (· < ·)/\∀b∈a,0<=b/\b<c
theorem ah.count {g:h->bv (h⊕u)} {f:u->Prop} (d:h->Z) (c:X) (e:X->h->Prop) {i0:X} {j:h} (p:d j=(i0:Z)) (o:e i0 j) (l:i0<=c) (r:∀a b,i0<=a->a<c->d b=(a:Z)->e a b->ah (g b) (λ|.inl m=>d m=((a+1:X):Z)/\e (a+1) m|.inr i=>f i)) (t:∀b,d b=(c:Z)->e c b->ah (g b) (λ|.inl _=>b7|.inr i=>f i)):ah (j5.loop g j) f:=by
 refine am3 (λb=>∃a:X,i0<=a/\a<=c/\d b=(a:Z)/\e a b) (λb=>c-(d b).toNat) ⟨i0,bf _,l,p,o⟩ ?_;rintro b ⟨a,q,l,n,s⟩;rcases c6 a c with k|k
 ·refine(r a b q k n s).mono ?_;grind
 grind [mono]
open Classical in
theorem Wm (b:amv) (d:Z) (u:b.length<4611686018427387904):D0 (b,d,())=Y (bw (rL b d),()):=by
 rw[<-bR];unfold D0;simp only[b1];refine ah.count (λi=>i.2.1) b.length (λa i=>i.1=(if a=0 then-1 else b.getD (a-1) 0)/\(b.take a).Pairwise (· < ·)/\∀e∈b.take a,0<=e/\e<d) (i0:=0) rfl ⟨bq,ac,ac⟩ (eU _) ?_ ?_
 ·rintro a ⟨h,x,_⟩ _ n j ⟨f,r,m⟩;simp only at j f;subst j;simp only[b3,b1,bA,amM];have v:∀e∈b.take a,e<=h:=by
   intro e q;rw[f];obtain⟨y,p,rfl⟩:=hN.1 q;simp only[hz] at p;have o:a≠0:=aa;rw[aw o];grind [amx,cw,bZ]
  have w:-1<=h:=by
   rw[f];by_cases g:a=0
   ·omega
   rw[aw g];simp only[anF,cH (aa:a-1<b.length),xw];have:=m (b[a-1]) (hN.2 ⟨a-1,ae,ac⟩);omega
  have s:(b[a]<=h\/d<=b[a])->¬rL b d:=by
   rintro c ⟨z,A⟩;rcases c with c|c
   ·rw[f] at c;by_cases g:a=0
    ·grind
    rw[aw g] at c;grind [amx,bZ]
   grind [ca]
  refine⟨λ_=>⟨n,λk=>⟨λl=>?_,λl=>?_⟩,λk=>?_⟩,λt=>by grind⟩
  ·grind
  ·simp at k l;refine⟨jM aa,?_,?_,?_⟩
   ·grind
   ·grind [amF,uS]
   grind [uS,amF]
  grind
 simp_all [b3,bA,ik,rL]
theorem Na (a b:Z):vK (a,b,())=Y (bw (a<b),()):=by grind [vK,tG]
theorem MR (a:Z) (b:0<=a) (c:a<18446744073709551616):bG.wrap a=a:=by unfold aoj;rw[aw (by simp[art])];show a %18446744073709551616=a;omega
theorem MY (b:amv) (e:Z) (B:b.length<4611686018427387904) (D:b.Pairwise (· < ·)):ah (vR (b,e,())) (λv=>v.2.1=bw (e∈b)):=by
 unfold vR;simp only[b1];refine cB (P:=λu=>∃a:X,u.1=(a:Z)/\a<=b.length/\(∀c,(f:c<b.length)->c<a->b[c]<e)/\(∀c,(f:c<b.length)->a<=c->e<=b[c])) ?_ ?_
 ·refine am3 (λg=>∃a d:X,g.1=(a:Z)/\g.2.1=(d:Z)/\a<=d/\d<=b.length/\(∀c,(f:c<b.length)->c<a->b[c]<e)/\(∀c,(f:c<b.length)->d<=c->e<=b[c])) (λg=>(g.2.1-g.1).toNat) ⟨0,b.length,bq,bq,eU _,bf _,λc _ f=>by omega,λc j h=>by omega⟩ ?_;rintro⟨t,E,_⟩ ⟨a,d,rfl,rfl,A,o,j,h⟩;simp only[b3,b1,bA];refine⟨λi=>?_,λn=>?_⟩
  ·have i:a<d:=ae;have ar:bN.wrap ((a:Z)+d)=(a:Z)+d:=cA aa aa;rw[ar,MR _ aa aa];have s:e8 bG ((a:Z)+d) 1=Y (((a+d)/2:X):Z):=by
    unfold e8;rw[ay aa];congr 1;show((a:Z)+d).fdiv (2^min 1 64)=_;grind
   rw[s];simp only[bA];have m:bN.wrap (((a+d)/2:X):Z)=(((a+d)/2:X):Z):=cA aa aa;rw[m,amM];refine⟨aa,?_⟩;rw[Na];simp only[bA,b3];have y:(a+d)/2<b.length:=aa;refine⟨λk=>?_,λk=>?_⟩
   ·have k:b[(a+d)/2]<e:=ae;rw[jM aa];refine⟨⟨(a+d)/2+1,d,bq,bq,aa,o,λc l p=>?_,h⟩,aa⟩;grind [Int.lt_trans,amx,cw]
   have k:e<=b[(a+d)/2]:=ae;refine⟨⟨a,(a+d)/2,bq,bq,aa,aa,j,λc l p=>?_⟩,aa⟩;grind [amx,cw]
  grind
 rintro⟨t,_⟩ ⟨a,rfl,z,j,h⟩;simp only;have C:(∀f:a<b.length,b[a]≠e)->e∉b:=by
  intro r q;obtain⟨c,l,rfl⟩:=hN.1 q;rcases vi c a with f|f|f
  ·grind
  ·grind
  have w:=h a aa (bf _);grind [amx]
 simp only[b3,b1,bA,amM];refine⟨λi=>?_,λn=>?_⟩
 ·have i:a<b.length:=ae;refine⟨i,λr=>?_,λx=>?_⟩
  ·grind [bA,EN]
  grind
 grind
structure fL (nK:ez):Prop where
 asc:∀v,(h:v<nK.length)->rL nK[v] nK.length
 Qd:∀v,(h:v<nK.length)->(v:Z)∉nK[v]
 sym:∀v,(h:v<nK.length)->∀w:X,(hw:w<nK.length)->(w:Z)∈nK[v]->(v:Z)∈nK[w]
open Classical in
def jl (a:ez):Z:=if 200<a.length then 6 else if fL a then 0 else 1
open Classical in
theorem Km (a:ez) (b:X) (c:Z) (f:b<a.length) (d:a[b].length<4611686018427387904) (e:a[b].Pairwise (· < ·)):xW ((a,()),(b:Z),c,())=Y (bw (c∈a[b]),()):=by rw[<-bR];grind [bA,MY,b1,amM,xW]
theorem Hz (a:ez) (p:∀z∈a,z.length<4611686018427387904):AA ((a,()),())=Y (jl a,()):=by
 classical
 rw[<-bR];unfold AA;simp only[b3,b1,bA];refine⟨λi=>?_,λi=>?_⟩
 ·grind [jl]
 have G:¬200<a.length:=ae;have C:¬fL a->(1:Z)=jl a:=λi=>(by grind [jl]);refine cB (P:=λh=>(h=.inr (1,())/\¬fL a)\/(h=.inl ()/\∀d,(i:d<a.length)->rL a[d] a.length/\(d:Z)∉a[d])) ?_ ?_
 ·refine ah.for (i0:=0) a.length (λc _=>∀d,d<c->(i:d<a.length)->rL a[d] a.length/\(d:Z)∉a[d]) rfl (λd l=>by omega) (eU _) ?_ ?_
  ·rintro c _ _ g t;simp only[b3,b1,bA,amM];refine⟨λ_=>⟨g,?_⟩,λr=>by grind⟩;rw[Wm _ _ (p _ (cT g))];simp only[bA];refine⟨λq=>?_,λq=>.inl ⟨trivial,λf=>?_⟩⟩
   ·have q:rL a[c] a.length:=ae;rw[Km a c c g (p _ (cT g)) q.1];simp only[bA,b3];refine⟨λx=>.inl ⟨trivial,λf=>f.Qd c g ae⟩,λx=>⟨jM aa,λd l D=>?_⟩⟩;grind
   have:=f.asc c g;grind
  simp_all [b3,bA,trivial]
 rintro h (⟨rfl,f⟩|⟨rfl,o⟩)
 ·grind [bA]
 simp only[b1];have J:(∀e,(i:e<a.length)->∀k∈a[e],∀b:X,k=(b:Z)->(j:b<a.length)->(e:Z)∈a[b])->fL a:=λi=>⟨λe f=>(o e f).1,λe f=>(o e f).2,λe f b j s=>i e f b s b bq j⟩;refine cB (P:=λh=>(h=.inr (1,())/\¬fL a)\/(h=.inl ()/\∀e,(i:e<a.length)->∀k∈a[e],∀b:X,k=(b:Z)->(j:b<a.length)->(e:Z)∈a[b])) ?_ ?_
 ·refine ah.for (i0:=0) a.length (λc _=>∀e,e<c->(i:e<a.length)->∀k∈a[e],∀b:X,k=(b:Z)->(j:b<a.length)->(e:Z)∈a[b]) rfl (λd l=>by omega) (eU _) ?_ ?_
  ·rintro c _ _ g t;simp only[b3,b1,amM];refine⟨λ_=>⟨g,?_⟩,λr=>by grind⟩;have E:=p _ (cT g);refine cB (P:=λh=>(h=.inr (.inr (.inr (1,())))/\¬fL a)\/(h=.inl ()/\∀k∈a[c],∀b:X,k=(b:Z)->(j:b<a.length)->(c:Z)∈a[b])) ?_ ?_
   ·refine ah.for (i0:=0) a[c].length (λd _=>∀m,m<d->(i:m<a[c].length)->∀b:X,a[c][m]=(b:Z)->(j:b<a.length)->(c:Z)∈a[b]) rfl (λd l=>by omega) (eU _) ?_ ?_
    ·rintro d _ _ l v;simp only[b3,b1,amM];refine⟨λ_=>⟨l,?_⟩,λr=>by grind⟩;have I:=(o c g).1.2 _ (cT l);obtain⟨b,j⟩:∃b:X,a[c][d]=(b:Z):=⟨a[c][d].toNat,aa⟩;have n:b<a.length:=aa;rw[j,Km a b c n (p _ (cT n)) (o b n).1.1];simp only[bA,b3];refine⟨λH=>.inl ⟨trivial,λf=>?_⟩,λM=>⟨jM aa,λm s F B K L=>?_⟩⟩
     ·have:=f.sym c g b n (j▸cT l);grind
     rcases c6 m d with u|u
     ·grind
     obtain rfl:m=d:=aa;have:B=b:=aa;grind
    intro A v;simp only[b3,bA];refine⟨λr=>by grind,λ_=>.inr ⟨trivial,λk y b j n=>?_⟩⟩;obtain⟨m,s,rfl⟩:=hN.1 y;grind
   rintro h (⟨rfl,f⟩|⟨rfl,w⟩)
   ·simp_all [trivial,bA]
   grind [bA,jM,cw]
  intro A t;simp only[b3,bA];grind
 rintro h (⟨rfl,f⟩|⟨rfl,w⟩)
 ·grind [bA]
 grind [bA,jl]
end
section
inductive r5 (A:X->X->Prop) (k:X):X->X->Prop
 |one {i j:X}:A i j->r5 A k i j
 |step {i m j:X}:A i m->m<k->r5 A k m j->r5 A k i j
section
variable {A:X->X->Prop} {k:X}
end
end
section
def kE (A:ez) (a b:X):Prop:=∃c:a<A.length,(b:Z)∈A[a]
def kE.lt {A:ez} (f:fL A) (b:kE A a c):a<A.length/\c<A.length:=by obtain⟨d,e⟩:=b;have:=(f.asc a d).2 _ e;omega
def kE.symm {A:ez} (e:fL A):∀a b,kE A a b->kE A b a:=λa b c=>by obtain⟨f,d⟩:=c.lt e;exact⟨d,e.sym a f b d c.2⟩
def kE.ne {A:ez} (e:fL A) (b:kE A a c):a≠c:=λd=>by subst d;exact e.Qd a b.1 b.2
def r5.lt {A:ez} (b:fL A) {e c j:X} (a:r5 (kE A) e c j):c<A.length/\j<A.length:=by
 induction a with
 |one a=>exact a.lt b
 |step a _ _ d=>exact⟨(a.lt b).1,d.2⟩
inductive Dh (R:X->X->Prop):X->X->Prop
 |refl (u:X):Dh R u u
 |step {u p v:X}:R u p->Dh R p v->Dh R u v
section
variable (A:ez)
variable {A} {j:X} {T:X->Prop} {par B:amv}
end
end
section
def zG (c:ez) (a b:X):Prop:=b=a\/(a<b/\r5 (kE c) a a b)
open Classical in
def vH (c:ez) (b d:X):amv:=((bK d).filter λa=>bw (b<=a/\zG c b a)).map λ(a:X)=>(a:Z)
def ho (a:ez) (b:X):amv:=vH a b a.length
def zG.le (b:zG l c a):c<=a:=by rcases b with b|b<;>omega
def wy:(a:Z)∈ho l c↔a<l.length/\zG l c a:=by
 unfold ho vH;simp only[eT,hV,gN,amV];constructor
 ·rintro⟨e,⟨d,b⟩,f⟩;have:e=a:=aa;subst this;exact⟨d,b.2⟩
 exactλ⟨d,b⟩=>⟨a,⟨d,b.le,b⟩,bq⟩
def Mn (c:X->bD) (b:X):(((bK b).filter c).map λ(a:X)=>(a:Z)).Pairwise (· < ·):=by rw[n6];refine asq _ ?_;exact aqo.imp (λd=>by omega)
def OE (a:ez) (b:X):(ho a b).Pairwise (· < ·):=Mn _ _
def Xd (b:ez) (c a:X):(vH b c a).length<=a:=by unfold vH;rw[eL];exact eE (mA _ _) ac
end
theorem M7 (a:amv) (b:Z) (h:a.length<4611686018427387904):AY (a,b,())=Y (bw (b∈a),()):=by
 rw[<-bR];unfold AY;simp only[b1];refine ah.for (i0:=0) a.length (λc _=>b∉a.take c) rfl ac (eU _) ?_ ?_
 ·rintro c _ _ d e;simp only[b3,b1,bA,amM];refine⟨λ_=>⟨d,λf=>?_,λi=>⟨jM aa,?_⟩⟩,λg=>by grind⟩
  ·grind
  grind [uS,amF]
 simp_all [b3,bA,ik]
def uM (a b:Z):Z:=(a %18446744073709551616) %b
def MQ (a:Z):bG.wrap a=a %18446744073709551616:=by unfold aoj;rw[aw (by simp[art])];rfl
def GG (b a:Z) (c:0<a):0<=uM b a/\uM b a<a:=by unfold uM;exact⟨pD _ aa,rP _ c⟩
theorem HQ (b a:Z) (c:0<a) (e:a<=4294967296):ye (b,a,())=Y (uM b a,()):=by rw[<-bR];unfold ye;simp only[b1,MQ,(aa:a %18446744073709551616=a)];unfold jH;rw[ay aa];have d:(b %18446744073709551616).tmod a=uM b a:=HF (pD _ aa);rw[bA,d];have:=GG b a c;grind [cA,bA]
def hX (a:ew) (b c:X):bD:=(a.getD b []).getD c bu
def nl (c:ew) (b d:X):amv:=((bK d).filter λa=>b !=a&&(hX c b a||hX c a b)).map λ(a:X)=>(a:Z)
def ku (a:ew):ez:=(bK a.length).map λb=>nl a b a.length
theorem QF (b:ew) (c a:X):(nl b c a).length<=a:=by grind [cC,am4,cb,nl]
theorem QG (c:ew) (b a:X):nl c b (a+1)=nl c b a++(if(b !=a&&(hX c b a||hX c a b))=bt then[(a:Z)] else[]):=by unfold nl;rw[kj,qw,kA];grind
theorem xK (b:a<p.length) (d:c<p[a].length):hX p a c=p[a][c]:=by grind [anF,hX]
theorem M5 (a:ew) (p:∀k∈a,k.length=a.length) (y:a.length<=4294967296):Ba (a,())=Y ((ku a,()),()):=by
 rw[<-bR];unfold Ba;have v:hR=4294967296:=rfl;simp only[b1];refine cB (P:=λd=>d.2.1.1=ku a) ?_ ?_
 ·refine ah.for (i0:=0) a.length (λc l=>l.2.1.1=(bK c).map λc=>nl a c a.length) rfl rfl (eU _) ?_ ?_
  ·rintro c ⟨l,h,_⟩ _ i g;simp only at g;simp only[b3,b1,bA];refine⟨λ_=>?_,λm=>by grind⟩;refine cB (P:=λd=>d.2.1=h/\d.2.2.1=nl a c a.length) ?_ ?_
   ·refine ah.for (i0:=0) a.length (λe d=>d.2.1=h/\d.2.2.1=nl a c e) rfl ⟨bq,bq⟩ (eU _) ?_ ?_
    ·rintro e ⟨s,q,k,_⟩ _ j ⟨n,o⟩;simp only at o n;subst n;have t:=p _ (cT i);have u:=p _ (cT j);simp only[b3 (b:=decide _),b1 (x:=bE _ _)];refine⟨λ_=>?_,λm=>by grind⟩;rw[b1];refine cB (P:=λd=>d=((c !=e&&(hX a c e||hX a e c)),s,q,k,())) ?_ ?_
     ·simp only[b3,b1,bA,amM];rw[xK i aa,xK j aa];refine⟨λf=>⟨i,aa,λr=>⟨j,aa,?_⟩,λr=>?_⟩,λf=>?_⟩
      ·have f:c≠e:=ae;grind
      ·have f:c≠e:=ae;grind
      grind
     rintro d rfl;have w:=QF a c e;simp only[b3,b1,bA,aol];refine⟨λf=>⟨ae,jM aa,trivial,?_⟩,λf=>⟨jM aa,trivial,?_⟩⟩
     ·rw[QG,ay f,o]
     simp_all [QG,aw,pG]
    simp_all [b3,bA,trivial]
   grind [b1,bA,aol,jM,am7]
  rintro⟨l,h,_⟩ g;simp only at g;simp only[b3,bA];exact⟨λm=>by grind,λ_=>g⟩
 grind [bA]
theorem QV:(a:Z)∈nl p c k↔a<k/\c≠a/\(hX p c a||hX p a c)=bt:=by unfold nl;grind
theorem JW (b:ew):fL (ku b):=by
 have e:(ku b).length=b.length:=(by simp[ku]);have d:∀a,(c:a<(ku b).length)->(ku b)[a]=nl b a b.length:=λa c=>(by simp[ku]);refine⟨λa c=>?_,λa c=>?_,λa c i h g=>?_⟩
 ·rw[d a c,e];refine⟨Mn _ _,λj f=>?_⟩;unfold nl at f;grind
 ·grind [QV]
 grind [QV,Bool.or_comm]
def YW (a:ew):(ku a).length=a.length:=by simp[ku]
theorem YX (b:ew):∀a∈ku b,a.length<=b.length:=by intro a c;unfold ku at c;grind [QF]
def Xe (r:fL l) (s:a<l.length):∃f,ho l a=(a:Z)::f/\(∀c∈f,∃b:X,c=(b:Z)/\a<b/\b<l.length/\r5 (kE l) a a b)/\(∀b:X,a<b->r5 (kE l) a a b->(b:Z)∈f)/\f.Pairwise (· < ·):=by
 have k:(a:Z)∈ho l a:=wy.2 ⟨s,.inl bq⟩;have h:=OE l a;have i:∀c∈ho l a,∃b:X,c=(b:Z)/\b<l.length/\zG l a b:=(by intro c e;have t:=e;unfold ho vH at e;simp only[eT] at e;obtain⟨b,_,rfl⟩:=e;exact⟨b,bq,wy.1 t⟩);generalize q:ho l a=o at k h i;cases o with
 |nil=>cases k
 |cons c f=>
  rw[nF] at h;have e:c=(a:Z):=by
   obtain⟨b,rfl,_,j⟩:=i c (jQ ..);have:=j.le;rcases fH.1 k with d|d
   ·exact d.symm
   have:=h.1 _ d;omega
  subst e;refine⟨f,bq,λu n=>?_,λb j m=>?_,h.2⟩
  ·obtain⟨b,rfl,p,g⟩:=i u (gH _ n);have:=h.1 _ n;rcases g with g|g
   ·omega
   exact⟨b,bq,g.1,p,g.2⟩
  have:(b:Z)∈ho l a:=wy.2 ⟨(m.lt r).2,.inr ⟨j,m⟩⟩;rw[q] at this;rcases fH.1 this with d|d
  ·omega
  exact d
theorem gj {b:bp h} {c:h} (d:b[a]?=Y c):az b (a:Z)=Y c:=by unfold az;rw[ay aa,fV,d]
theorem H4 (b:ez):fL b↔∀a,(f:a<b.length)->b[a].Pairwise (· < ·)/\∀c,(e:c<b[a].length)->(0<=b[a][c]/\b[a][c]<b.length)/\b[a][c]≠(a:Z)/\(a:Z)∈b.getD (b[a][c]).toNat []:=by
 constructor
 ·rintro⟨g,j,k⟩ a d;refine⟨(g a d).1,λc e=>?_⟩;have l:=(g a d).2 _ (cT e);grind
 intro f;refine⟨λa d=>⟨(f a d).1,λp n=>?_⟩,λa d h=>?_,λa d o m h=>?_⟩
 ·grind [ani]
 ·grind [ani]
 obtain⟨c,e,i⟩:=hN.1 h;grind [am8,bZ]
theorem L5 (a:ez) (s:∀B∈a,B.length<4611686018427387904):yj ((a,()),())=Y (jl a,()):=by
 classical
 rw[<-bR];unfold yj;simp only[b3,bA,b1];refine⟨λd=>?_,λd=>?_⟩
 ·grind [jl]
 have E:¬200<a.length:=ae;refine cB (P:=λg=>(g=.inl ()/\fL a)\/(g=.inr (1,())/\¬fL a)) ?_ ?_
 rotate_left
 ·rintro _ (⟨rfl,e⟩|⟨rfl,e⟩)
  ·grind [bA,jl]
  grind [bA,jl]
 refine ah.for (i0:=0) a.length (λn _=>∀b,(d:b<a.length)->b<n->a[b].Pairwise (· < ·)/\∀c,(f:c<a[b].length)->(0<=a[b][c]/\a[b][c]<a.length)/\a[b][c]≠(b:Z)/\(b:Z)∈a.getD (a[b][c]).toNat []) rfl (λb _ d=>by omega) (eU _) ?_ ?_
 ·rintro b _ _ e i;have A:=s _ (cT e);simp only[b3,bA,b1,amM];refine⟨λ_=>⟨e,?_⟩,λh=>by grind⟩;rw[UZ _ A];simp only[bA];refine⟨λl=>.inr ⟨trivial,λk=>?_⟩,λl=>?_⟩
  ·have:=(k.asc b e).1;grind
  have l:a[b].Pairwise (· < ·):=ae;refine cB (P:=λg=>(g=.inl ()/\∀c,(f:c<a[b].length)->(0<=a[b][c]/\a[b][c]<a.length)/\a[b][c]≠(b:Z)/\(b:Z)∈a.getD (a[b][c]).toNat [])\/(g=.inr (.inr (.inr (1,())))/\¬fL a)) ?_ ?_
  rotate_left
  ·rintro _ (⟨rfl,t⟩|⟨rfl,t⟩)
   ·simp only[bA];refine⟨jM aa,λp z G=>?_⟩;rcases c6 p b with d|d
    ·exact i p z d
    obtain rfl:p=b:=aa;exact⟨l,t⟩
   simp_all [bA,trivial]
  refine ah.for (i0:=0) a[b].length (λn _=>∀c,(f:c<a[b].length)->c<n->(0<=a[b][c]/\a[b][c]<a.length)/\a[b][c]≠(b:Z)/\(b:Z)∈a.getD (a[b][c]).toNat []) rfl (λb _ d=>by omega) (eU _) ?_ ?_
  ·rintro c _ _ f j;have m:¬((0<=a[b][c]/\a[b][c]<a.length)/\a[b][c]≠(b:Z)/\(b:Z)∈a.getD (a[b][c]).toNat [])->¬fL a:=λd k=>d (((H4 a).1 k b e).2 c f);simp only[b3,bA,b1,amM];refine⟨e,λ_=>⟨e,f,λq=>⟨λr=>⟨λu=>?_,λu=>?_⟩,λr=>?_⟩,λq=>?_⟩,λh=>by simp_all⟩
   ·have y:0<=a[b][c]/\a[b][c]<(a.length:Z):=ag;have F:a[b][c]≠(b:Z):=ag;rw[ah.PQ];refine⟨aa,y.1,?_⟩;rw[M7 _ _ (s _ (cT _))];have C:a.getD (a[b][c]).toNat []=a[(a[b][c]).toNat]'(by omega):=by
     simp_all
    simp only[bA];refine⟨λv=>.inr ⟨trivial,m ?_⟩,λv=>⟨jM aa,λo x D=>?_⟩⟩
    ·simp_all
    rcases c6 o c with d|d
    ·exact j o x d
    obtain rfl:o=c:=aa;simp_all
   ·simp_all
   ·refine .inr ⟨trivial,m (λw=>?_)⟩;simp at r;omega
   refine .inr ⟨trivial,m (λw=>?_)⟩;simp at q;omega
  rintro _ j;simp only[b3,bA,b1,amM];exact⟨e,λh=>by simp at h,λ_=>.inl ⟨trivial,λc f=>j c f f⟩⟩
 rintro _ i;simp only[b3,bA];exact⟨λh=>by grind,λ_=>.inl ⟨trivial,(H4 a).2 λb e=>i b e e⟩⟩
theorem Vy (a:amv) (c:Z) (q:a.length<4611686018427387904):Fa (a,c,())=Y (bw (∀b∈a,0<=b/\b<c),()):=by
 rw[<-bR];unfold Fa;simp only[b1];refine cB (P:=λi=>(i=.inl ()/\∀b∈a,0<=b/\b<c)\/(i=.inr (bu,())/\¬∀b∈a,0<=b/\b<c)) ?_ ?_
 ·refine ah.for (i0:=0) a.length (λf _=>∀d,(e:d<a.length)->d<f->0<=a[d]/\a[d]<c) rfl (λd _ e=>by omega) (eU _) ?_ ?_
  ·rintro f _ _ g l;have h:¬(0<=a[f]/\a[f]<c)->¬∀b∈a,0<=b/\b<c:=λe n=>e (n _ (cT g));simp only[b3,b1,bA,amM];refine⟨λ_=>⟨g,λj=>⟨g,λk=>.inr ⟨trivial,h (λe=>?_)⟩,λk=>⟨jM aa,λd o p=>?_⟩⟩,λj=>.inr ⟨trivial,h (λe=>?_)⟩⟩,λm=>by grind⟩
   ·grind
   ·grind
   grind
  rintro _ l;simp only[b3,bA];refine⟨λm=>by grind,λ_=>.inl ⟨trivial,λb r=>?_⟩⟩;grind [ani]
 grind [bA,amA,amT]
theorem Rp:d.Nodup↔∀a,(b:a<d.length)->d[a]∉d.take a:=by grind [ani,am5,amx]
theorem VH (a:amv) (m:a.length<4611686018427387904):Fb (a,())=Y (bw (¬a.Nodup),()):=by
 rw[<-bR];unfold Fb;simp only[b1];refine cB (P:=λe=>(e=.inl ()/\a.Nodup)\/(e=.inr (bt,())/\¬a.Nodup)) ?_ ?_
 ·refine ah.for (i0:=0) a.length (λc _=>∀b,(d:b<a.length)->b<c->a[b]∉a.take b) rfl (λb _ d=>by omega) (eU _) ?_ ?_
  ·rintro c _ _ g h;have ar:hS (c:Z)=Y c:=(by simp_all [ay,fV,hS]);have f:iA 0 c a.length=Y ():=(by grind [iA]);simp only[b3,b1,bA,amM,ar,f,aM,jT,nC];refine⟨λ_=>⟨g,?_⟩,λj=>by grind⟩;rw[M7 _ _ ae];simp only[bA];refine⟨λd=>.inr ⟨trivial,λi=>?_⟩,λd=>⟨jM aa,λb k l=>?_⟩⟩
   ·simp_all [Rp,aoH]
   grind
  simp_all [b3,bA,trivial,Rp]
 grind [bA,amT,amA]
def pw (a:ez):ew:=(bK a.length).map λb=>(bK a.length).map λ(c:X)=>bw ((c:Z)∈a.getD b [])
theorem Mv (a:ez):(pw a).length=a.length:=by simp[pw]
theorem Uc (b:a<l.length):(pw l)[a]?=Y ((bK l.length).map λ(c:X)=>bw ((c:Z)∈l[a])):=by simp[pw,b,anF]
theorem Nl (p:∀v∈l,v.length<4611686018427387904) (y:l.length<=200) (r:∀a,(f:a<l.length)->∀o∈l[a],0<=o/\o<(l.length:Z)):Bb ((l,()),())=Y (pw l,()):=by
 rw[<-bR];unfold Bb;have x:hR=4294967296:=rfl;simp only[b1];refine cB (P:=λd=>d.1=pw l) ?_ (by grind [bA]);refine ah.for (i0:=0) l.length (λu e=>e.1=(pw l).take u) rfl ac (eU _) ?_ ?_
 ·rintro a ⟨i,_⟩ _ b h;simp only at h;have A:=p _ (cT b);simp only[b3,b1,ah.KP,fV];refine⟨λ_=>⟨⟨aa,aa,aa⟩,?_⟩,λq=>by grind⟩;refine cB (P:=λd=>d.1=i/\d.2.1=(bK l.length).map λ(k:X)=>bw ((k:Z)∈l[a])) ?_ ?_
  ·refine ah.for (i0:=0) l[a].length (λc e=>e.1=i/\e.2.1=(bK l.length).map λ(k:X)=>bw ((k:Z)∈l[a].take c)) rfl ⟨bq,?_⟩ (eU _) ?_ ?_
   ·apply iJ;grind
   ·rintro c ⟨B,w,_⟩ _ g ⟨m,n⟩;simp only at m n;have t:=r a b _ (cT g);have z:w.length=l.length:=ae;simp only[b3,b1,amM,ah.FU,ah.Dn,bA];refine⟨b,λ_=>⟨b,g,⟨t.1,aa⟩,aa,jM aa,m,?_⟩,λq=>by grind⟩;apply iJ;intro j;rw[zN,n,jv,jv];rcases c6 j l.length with f|f
    ·rw[zM f];simp only[jT,<-uS g,hl,gI,eL,oU];by_cases s:(l[a][c]).toNat=j
     ·grind
     rw[aw s];have:¬(j:Z)=l[a][c]:=aa;grind
    grind
   simp_all [b3,b1,amM,bA,ik]
  grind [b1,aol,bA,jM,Uc,amG]
 rintro⟨i,_⟩ h;simp only at h;simp only[b3,bA];grind [Mv,amy]
theorem Pb (a:X) (h:a<=4294967296):Bc ((a:Z),())=Y (bM a (bM a bu),()):=by
 rw[<-bR];unfold Bc;have g:hR=4294967296:=rfl;simp only[b1];refine cB (P:=λd=>d.1=bM a (bM a bu)) ?_ (by grind [bA]);refine ah.for (i0:=0) a (λb e=>e.1=bM b (bM a bu)) rfl rfl (eU _) ?_ ?_
 ·rintro b ⟨i,_⟩ _ f c;simp only at c;simp only[b3,b1,bA,ah.KP,aol,fV];grind [List.replicate_succ',jM]
 simp_all [b3,bA]
section
def aA {α:Type} (b:X) (a:X->α):bp α:=(bK b).map a
def eK {α:Type} (b:X->α) (c:X) (d:α):X->α:=λa=>if a=c then d else b a
section
variable {α A B:Type}
theorem gw (c:X->α) (a:X) (b:α):eK c a b a=b:=ay bq
theorem gS (b:X->α) (e:α) (d:a≠c):eK b c e a=b a:=aw d
theorem cI (a:X) (b:X->α):(aA a b).length=a:=by simp[aA]
theorem pf (c:X) (b:X->α) (a:X):(aA c b)[a]?=if a<c then Y (b a) else br:=by unfold aA;grind
theorem gu {b:X->α} (d:a<c):(aA c b)[a]?=Y (b a):=by rw[pf,ay d]
theorem lK {b:X->α} (d:a<(aA c b).length):(aA c b)[a]=b a:=by simp[aA]
theorem db {c d:X->α} (e:∀b,b<a->c b=d b):aA a c=aA a d:=iY λb f=>e b (gN.1 f)
theorem YA (a:X->α):aA 0 a=[]:=rfl
theorem om (b:X) (a:X->α):aA (b+1) a=aA b a++[a b]:=by simp[aA,kj]
theorem jV (a:X) (b:α):bM a b=aA a λ_=>b:=by apply iJ;grind [pf]
theorem hq {b:X->α} (d:α):(aA c b).set a d=aA c (eK b a d):=by apply iJ;intro e;rw[zN,pf,pf,cI];unfold eK;grind
def QT {b:X->α} {d:α}:d∈aA a b↔∃c,c<a/\b c=d:=by simp[aA]
theorem Yz (a:bp α) (c:X->α) (d:∀b,(e:b<a.length)->a[b]=c b):a=aA a.length c:=by apply iJ;grind [aoi,bZ,pf]
theorem Fz (c a:X) (b:X->α) (d:a<=c):(aA c b).take a=aA a b:=by apply iJ;intro e;rw[ao0,pf,pf];grind
theorem Yx (d a:X) (b:X->α):(aA d b).drop a=aA (d-a) (λc=>b (a+c)):=by apply iJ;intro c;rw[qA,pf,pf];grind
theorem Bp (b e:X) (c d:X->α):aA b c++aA e d=aA (b+e) (λa=>if a<b then c a else d (a-b)):=by apply iJ;intro a;rw[List.getElem?_append,cI,pf,pf,pf];grind
theorem e4 {n i:X} (a:i<n):bn n (i:Z)=Y i:=by simp_all [ay,bn]
theorem gP {d:bp α} {c:α} {b:α->bv A} (e:d[a]?=Y c):be d a b=b c:=by grind [be]
theorem hb {b:X->α} {d:α->bv A} (e:a<c):be (aA c b) a d=d (b a):=gP (gu e)
def sv {b:X->α} (d:a<c):az (aA c b) (a:Z)=Y (b a):=gj (gu d)
theorem fe (b:a<=4294967296):c3 a=Y ():=ay b
def jq (b:a<=4294967296):fR (a:Z) (a:Z)=Y a:=by unfold fR;rw[ay ⟨aa,aa,by have:hR=4294967296:=rfl;omega⟩];simp
theorem yV:hS (a:Z)=Y a:=by simp_all [ay,hS]
theorem yG (b:c<=a/\a<=k):iA c a k=Y ():=ay b
def SC (b:0<a):y4 a=Y ():=rfl
theorem gV (a b:Z):(a==b)=bw (a=b):=by grind
theorem fZ (a b:Z):(a !=b)=!bw (a=b):=by grind
theorem aJ [am9 q] (a:q):decide q=bt:=amA a
theorem aG [am9 q] (a:¬q):decide q=bu:=amT a
theorem a5 {a b:α} (c:i=bt):(bif i then a else b)=a:=by grind
theorem a2 {b a:α} (c:i=bu):(bif i then b else a)=a:=by grind
theorem de [am9 q] {a b:α}:(bif decide q then a else b)=if q then a else b:=by grind
theorem IM [am9 q] {a b:α}:(bif decide q==bt then a else b)=if q then a else b:=by grind
theorem DB [am9 q] {a b:α}:(bif decide q==bu then a else b)=if q then b else a:=by grind
theorem Hw (b:a<9223372036854775808):bN.wrap (a:Z)=(a:Z):=cA aa aa
theorem UN (b:a+c<9223372036854775808):bN.wrap ((a:Z)+(c:Z))=((a+c:X):Z):=by grind [cA]
theorem aiC (d:c<=a) (b:a<9223372036854775808):bN.wrap ((a:Z)-(c:Z))=((a-c:X):Z):=by grind [cA]
theorem CN (c:1<=a) (b:a<9223372036854775808):bN.wrap ((a:Z)-1)=((a-1:X):Z):=by grind [cA]
theorem lV (b:a+1<9223372036854775808):bN.wrap ((a:Z)+1)=((a+1:X):Z):=by grind [cA]
end
def ah.of_eq {α:Type} {c:bv α} {a:α} {b:α->Prop} (d:c=Y a) (e:b a):ah c b:=⟨a,d,e⟩
theorem ah.aO {α A:Type} {c:bv α} {b:α->bv A} {P:α->Prop} {a:A->Prop} (e:ah c P) (f:∀d,P d->ah (b d) a):ah (c.bind b) a:=
 b1.2 (e.mono f)
theorem ah.ite {α:Type} [am9 q] {b c:bv α} {a:α->Prop} (d:q->ah b a) (e:¬q->ah c a):ah (if q then b else c) a:=by grind
theorem aq {α A:Type} {c:bv α} {a:α->bv A} {y:α} {b:bv A} (d:c=Y y) (e:a y=b):c.bind a=b:=by grind
theorem BL {f:Z×h->bv ((Z×h)⊕u)} {g:u} {i:h} (d:X) (c:X->h) (e:X) (k:b=(e:Z)) (l:i=c e) (j:e<=d) (o:∀a,e<=a->a<d->f ((a:Z),c a)=Y (.inl (((a+1:X):Z),c (a+1)))) (n:f ((d:Z),c d)=Y (.inr g)):loop f (b,i)=Y g:=by
 subst k l;rw[<-bR];refine ah.for d (λa m=>m=c a) rfl rfl j ?_ ?_
 ·grind [bA]
 grind [bA]
theorem F8 {τ:Type} {i:Z×τ->bv ((Z×τ)⊕h)} (f:X) (e:X->Prop) (g:τ) (m l:h) (d:X) (r:b=(d:Z)) (q:d<=f) (s:∀a,d<=a->a<f->(∀c,d<=c->c<a->e c)->i ((a:Z),g)=Y (open Classical in if e a then .inl (((a+1:X):Z),g) else .inr l)) (v:(∀c,d<=c->c<f->e c)->i ((f:Z),g)=Y (.inr m)):loop i (b,g)=Y (open Classical in if∀a,d<=a->a<f->e a then m else l):=by
 classical
 subst r;rw[<-bR];refine ah.for f (λa t=>t=g/\∀c,d<=c->c<a->e c) rfl ⟨bq,λc j u=>by omega⟩ q ?_ ?_
 ·rintro a _ n j ⟨rfl,o⟩;rw[s a n j o];by_cases k:e a
  ·rw[ay k];grind [cw,bA]
  rw[aw k];exact bA.2 (by rw[aw (λp=>k (p a n j))])
 rintro _ ⟨rfl,o⟩;simp_all [bA,ay]
theorem KK {d:Z×bz->bv dP} (c:X) (b:X->Prop) (h:∀a,a<c->d ((a:Z),())=Y (open Classical in if b a then .inl (((a+1:X):Z),()) else .inr (.inr ((a:Z),())))) (m:d ((c:Z),())=Y (.inr (.inl ()))):ah (loop d (0,())) (λi=>match i with|.inl _=>∀a,a<c->b a|.inr j=>0<=j.1/\¬∀a,a<c->b a):=by
 classical
 refine ah.for c (λa _=>∀e,e<a->b e) (i0:=0) rfl (λe k=>by omega) (eU _) ?_ ?_
 ·rintro a ⟨⟩ _ g l;rw[h a g];by_cases f:b a
  ·rw[ay f];grind [cw,bA]
  rw[aw f];grind [bA]
 grind [bA]
end
theorem MO (a:Z):ch.wrap a=a %4294967296:=by unfold aoj;exact aw (ac:¬(bu&&bw (a %4294967296>=(2147483648:Z)))=bt)
theorem Hx (a:Z):bG.wrap a=a %18446744073709551616:=by unfold aoj;exact aw (ac:¬(bu&&bw (a %18446744073709551616>=(9223372036854775808:Z)))=bt)
theorem CM (a:0<=b) (c:b<18446744073709551616):bG.wrap b=b:=by grind [Hx]
theorem MP (a:0<=b) (c:b<4294967296):ch.wrap b=b:=by grind [MO]
theorem WK (b:a<18446744073709551616):(cl 64 (a:Z)).toNat=a:=by grind
theorem NE (e:a<18446744073709551616) (f:c<18446744073709551616):fo .u64 (a:Z) (c:Z)=((a&&&c:X):Z):=by have b:((cl 64 (a:Z))&&&(cl 64 (c:Z))).toNat=a&&&c:=ae;have d:a&&&c<=a:=aru;unfold fo;rw[show bG.bits=64 from rfl,b];grind [CM]
theorem ND (e:a<4294967296) (f:c<4294967296):fo .u32 (a:Z) (c:Z)=((a&&&c:X):Z):=by have b:((cl 32 (a:Z))&&&(cl 32 (c:Z))).toNat=a&&&c:=ae;have d:a&&&c<=a:=aru;unfold fo;rw[show ch.bits=32 from rfl,b];grind [MP]
theorem aec (d:a<18446744073709551616) (e:c<18446744073709551616):hu .u64 (a:Z) (c:Z)=((a|||c:X):Z):=by have b:(cl 64 (a:Z)|||cl 64 (c:Z)).toNat=a|||c:=ae;have f:a|||c<2^64:=arv d e;unfold hu;rw[show bG.bits=64 from rfl,b];grind [CM]
theorem aeb (d:a<4294967296) (e:c<4294967296):hu .u32 (a:Z) (c:Z)=((a|||c:X):Z):=by have b:(cl 32 (a:Z)|||cl 32 (c:Z)).toNat=a|||c:=ae;have f:a|||c<2^32:=arv d e;unfold hu;rw[show ch.bits=32 from rfl,b];grind [MP]
theorem tv (a:X) (d:0<=b) (f:b<18446744073709551616) (c:Z) (e:a<=64) (i:c=2^a-1):fo .u64 b c=b %2^a:=by obtain⟨k,rfl⟩:=gd d;have j:0<2^a:=kD a;have g:c=((2^a-1:X):Z):=ae;have h:2^a<=2^64:=vj ab e;grind [NE,aqp]
def and_low32 (a:0<=b) (c:b<18446744073709551616):fo .u64 b 4294967295=b %4294967296:=tv 32 a c _ ab ab
theorem oF (a:Z):e8 .u64 a 32=Y (a/4294967296):=by have:e8 .u64 a 32=Y (a.fdiv 4294967296):=rfl;grind
theorem qk (a:0<=b) (c:b<=64):js .u64 e b=Y ((e*2^b.toNat) %18446744073709551616):=by unfold js;rw[ay a,Hx,show bG.bits=64 from rfl,iZ aa]
theorem Cx (a:0<=b) (c:b<=64):e8 .u64 e b=Y (e/2^b.toNat):=by unfold e8;rw[ay a,show bG.bits=64 from rfl,iZ aa,arw _ ae]
theorem NG (b:X) (d:a<2^b):a|||(c*2^b)=a+c*2^b:=by rw[anO,Nat.or_comm,nG,Nat.two_pow_add_eq_or_of_lt d]
theorem nS (a:X) (d:0<=b) (h:b<2^a) (f:0<=e) (i:b<18446744073709551616) (j:e<18446744073709551616) (l:e %2^a=0):hu .u64 b e=b+e:=by obtain⟨g,rfl⟩:=gd d;obtain⟨c,rfl⟩:=gd f;have n:g<2^a:=ae;have m:c %2^a=0:=ae;rw[aec aa aa];have k:c=(c/2^a)*2^a:=(by grind [Nat.mul_comm,apb]);grind [NG]
def aP (a:X):X:=if a=0 then 0 else a.log2+1
theorem fY:aP c<=a↔c<2^a:=by grind [Nat.log2_lt,anY,aP]
def tB:a<aP c↔2^a<=c:=by rw[<-Nat.not_le,fY,Nat.not_lt]
def wK (a b:X) (c:a<=b):2^a<=2^b:=vj ab c
def GA (a b:X) (c:a<b):2^a<2^b:=arx ab c
def kq (b:c<=a):aP c<=aP a:=by rw[fY];have:=fY.1 (bf (aP a));omega
theorem vy {b:X} (d:aP a<=k) (e:aP c<=b):aP (a*c)<=k+b:=by simp_all [Nat.mul_lt_mul'',fY,kk]
theorem aaV {b:X} (d:c<=b*a) (e:k<a):c+k<=(b+1)*a:=by grind
def Is (b:X) (d:aP a<=b) (e:aP c<=b):aP (a+c)<=b+1:=by rw[fY] at*;omega
theorem aeO {b:X} (e:c*2^k=a*2^b) (f:0<c):0<a:=by
 rcases rX a with d|d
 ·simp_all [Nat.mul_eq_zero,kD,Nat.zero_mul]
 omega
theorem r8 {m:X} (a:0<m):0<aP m:=tB.2 a
def N6 {k:X} (b:2^k<=a) (c:a<2^(k+1)):aP a=k+1:=by have:=tB.2 b;have:=fY.2 c;omega
theorem xM (b:0<a):2^(aP a-1)<=a/\a<2^aP a:=
 ⟨tB.1 (by grind [r8]),fY.1 (bf _)⟩
theorem r9 (d:0<a) (b:X):aP (a*2^b)=aP a+b:=by
 obtain⟨e,f⟩:=xM d;have i:=kD b;have h:=r8 d;obtain⟨c,g⟩:∃c,aP a=c+1:=⟨aP a-1,aa⟩;rw[g] at e f|-;rw[(aa:c+1+b=(c+b)+1)];refine N6 ?_ ?_
 ·simp_all [hW,kk]
 rw[(aa:c+b+1=(c+1)+b),kk];simp_all
def Ds (b a:X):aP (b/2^a)=aP b-a:=by
 have c:=kD a;apply Nat.le_antisymm
 ·rw[fY,apa c,<-kk];exact fY.1 aa
 rcases c6 a (aP b) with d|d
 ·have:aP b-a-1<aP (b/2^a):=by
   rw[tB,aqq c,<-kk];exact tB.1 aa
  omega
 omega
def w4 (c:bD) (b:Z) (d:bD) (a:Z):bD:=
 if a=1 then c else if a=2 then !c else if a=3 then bu else bw (0<b)||(bw (b=0)&&d)
def mI (b a:X) (c:bD):Z:=
 if 2*(b %2^a)<2^a then-1 else if 2^a<2*(b %2^a) then 1 else if c then 1 else 0
def iO (e:bD) (a b:X) (c:bD) (d:Z):X:=
 if a %2^b=0/\c=bu then a/2^b
 else if w4 e (mI a b c) (bw (a/2^b %2=1)) d then a/2^b+1 else a/2^b
def aaR (b a c:X):b %2^(a+c)=(b/2^a %2^c)*2^a+b %2^a:=by rw[kk,Nat.mod_mul,anO,nG]
def j0 (b:bD) (a:Z):Z:=if b then 9223372036854775808+a else a
def rq (a:bD) (b:Z):Z:=
 if b=3\/(b=1/\a=bu)\/(b=2/\a=bt) then j0 a 9218868437227405311 else j0 a 9218868437227405312
def ls (a:bD) (b:X) (c d:Z):Z:=
 if b<4503599627370496 then j0 a b
 else if b=9007199254740992 then if c+1+1075>=2047 then rq a d else j0 a ((c+1+1075)*4503599627370496)
 else if c+1075>=2047 then rq a d else j0 a ((c+1075)*4503599627370496+(b-4503599627370496))
def eH (b:X) (a:Z):Z:=max (a+aP b-1-52) (-1074)
def mU (d:bD) (b:X) (a:Z) (e:bD) (c:Z):Z:=
 if eH b a<=a then ls d (b*2^(a-eH b a).toNat) (eH b a) c
 else ls d (iO d b (eH b a-a).toNat e c) (eH b a) c
def BE:X->X->X
 |0,_=>0
 |f+1,a=>if(2*BE f (a/4)+1)*(2*BE f (a/4)+1)<=a then 2*BE f (a/4)+1 else 2*BE f (a/4)
def Kk (a:X):X:=BE (aP a) a
abbrev qo:=bD×amv×bz
abbrev gG:=bD×qo×Z×bz
def hK (a:qo):Z:=if a.1 then-al a.2.1 else al a.2.1
def aK (a:Z):qo:=(bw (a<0),fb a.natAbs,())
theorem oI (a:Z):hK (aK a)=a:=by unfold hK aK;simp only[tX,amV];omega
theorem mL (a:Z):a1 (aK a).2.1:=q2 _
def Fu (a:Z):fK (aK a).2.1:=yn _
theorem i7 (a:Z):al (aK a).2.1=a.natAbs:=tX _
theorem wb:(aK b).2.1=[]↔b=0:=by show fb b.natAbs=[]↔_;grind [X4]
theorem Pd {neg:bD} (a:a1 d) (b:fK d):(neg&&bw (d≠[]),d,())=aK (hK (neg,d,())):=by have e:=gB a;have f:d=fb (al d).toNat:=aoM a b;have g:d=[]↔al d=0:=⟨λc=>by rw[c];rfl,aqr a b⟩;unfold aK hK;grind
def Hm:X->X->X
 |0,_=>0
 |f+1,a=>if a %2=0 then Hm f (a/2)+1 else 0
def cV (a:X):X:=if a=0 then 0 else Hm (aP a) a
def ah5:∀{a n:X},0<n->n<2^a->∃b,n=(2*b+1)*2^Hm a n:=by
 intro a
 induction a with
 |zero=>omega
 |succ a e=>
  intro n f g;unfold Hm;split
  ·rename_i c;obtain⟨b,d⟩:=e (n:=n/2) aa aa;refine⟨b,?_⟩;rw[vk,<-tj,<-d];omega
  rename_i c;exact⟨n/2,aa⟩
theorem uT {n:X} (b:0<n):∃a,n=(2*a+1)*2^cV n:=by unfold cV;rw[aw aa];exact ah5 b (fY.1 (bf _))
theorem Rz:∀{s t a b:X},(2*a+1)*2^s=(2*b+1)*2^t->s=t/\a=b
 |0,0,a,b,c=>by omega
 |0,t+1,a,b,c|s+1,0,a,b,c=>by grind
 |s+1,t+1,a,b,c=>by rw[vk,<-tj,vk,<-tj] at c;obtain⟨d,e⟩:=Rz (s:=s) (t:=t) (a:=a) (b:=b) aa;omega
theorem zu {a:X} (b:c=(2*a+1)*2^k):cV c=k:=by have e:=kD k;have d:0<c:=ae;grind [Rz,uT]
theorem CF (e:0<c) (b:X):cV (c*2^b)=cV c+b:=by obtain⟨d,f⟩:=uT e;refine zu (a:=d) ?_;grind
theorem ah6 {n:X} (a:0<n):n/2^cV n %2=1:=by grind [aqs,anY,uT]
theorem sZ {n:X} (a:0<n):cV n<aP n:=by obtain⟨b,c⟩:=uT a;rw[tB];grind
theorem ur {n k:X} (d:0<n):k<=cV n↔n %2^k=0:=by
 obtain⟨c,f⟩:=uT d;constructor
 ·intro i;obtain⟨a,b⟩:∃a,cV n=a+k:=⟨cV n-k,aa⟩;rw[b,kk,<-tj] at f;simp_all
 intro j;rcases c6 (cV n) k with e|e
 ·exfalso;obtain⟨a,b⟩:∃a,k=cV n+(a+1):=⟨k-cV n-1,aa⟩;have g:n=n/2^k*2^k:=(by grind [Nat.mul_comm,apb]);have l:=kD (cV n);have h:(2*c+1)*2^cV n=(2*(n/2^k*2^a))*2^cV n:=by
   grind
  grind [Nat.eq_of_mul_eq_mul_right]
 omega
def rB (b a:Z):Z:=b*2^a.toNat/2^(-a).toNat
def gQ (a b:Z):amp:=
 if a=0 then Y 0
 else if b+cV a.natAbs< -65536\/65536<b+aP a.natAbs then br
 else Y (rB a (b+65536))
def aE:amp->gG
 |none=>(bt,(bu,[],()),0,())
 |some a=>if a=0 then(bu,(bu,[],()),0,()) else(bu,aK (a/2^cV a.natAbs),(cV a.natAbs:Z)-65536,())
def gb (a:Z):Prop:=aP a.natAbs<=131072
instance(a:Z):am9 (gb a):=inferInstanceAs (am9 (_<=_))
def nb (a:Z):amp:=if gb a then Y a else br
def da (b:amp):Prop:=∀a,b=Y a->gb a
theorem jr (b:Z) (a:X):(b*2^a).natAbs=b.natAbs*2^a:=by rw[pE,Int.natAbs_pow];rfl
theorem Fm (c:b.natAbs %2^a=0):b/2^a*2^a=b:=by grind [Int.ediv_mul_cancel,Int.ofNat_dvd_left,Nat.dvd_of_mod_eq_zero]
theorem BV (c:b.natAbs %2^a=0):(b/2^a).natAbs=b.natAbs/2^a:=by grind [jr,aqs,anY,Fm]
theorem pu (b:Z) (a:X):rB b a=b*2^a:=by grind [am8,rB]
theorem zm (b:Z) (a:X):rB b (-(a:Z))=b/2^a:=by simp_all [apk,fV,rB]
def cO (a:Z):Z:=a/2^cV a.natAbs
def eD (a:Z):Z:=(cV a.natAbs:Z)-65536
theorem oy (a:Z):cO a*2^cV a.natAbs=a:=by
 rcases rX a.natAbs with b|b
 ·obtain rfl:a=0:=aa;rfl
 exact Fm ((ur b).1 (bf _))
def Rw (a:b≠0):(cO b).natAbs=b.natAbs/2^cV b.natAbs:=BV ((ur aa).1 (bf _))
theorem k4 (c:b≠0):cO b≠0:=λa=>by grind [oy]
def Ry (c:b≠0):cV (cO b).natAbs=0:=by rw[Rw c];have:=ah6 (n:=b.natAbs) aa;exact zu (a:=b.natAbs/2^cV b.natAbs/2) aa
theorem Lf (a:b≠0):aP (cO b).natAbs=aP b.natAbs-cV b.natAbs:=by rw[Rw a,Ds]
theorem BY {v:Z}:cO v<0↔v<0:=by
 have c:=oy v;have b:(0:Z)<2^cV v.natAbs:=l0 ab;constructor
 ·intro a;have:=Int.mul_neg_of_neg_of_pos a b;omega
 grind [anG,apl,anj]
theorem Pf (a:b≠0):aE (Y b)=(bu,aK (cO b),eD b,()):=by show(if b=0 then _ else _)=_;rw[aw a];rfl
theorem BT {v:Z} (i:-65536<=b) (c:v=e*2^(b+65536).toNat):gQ e b=nb v:=by
 obtain⟨d,g⟩:∃d:X,b+65536=d:=⟨(b+65536).toNat,aa⟩;rw[g,fV] at c;unfold gQ nb;by_cases f:e=0
 ·subst f;simp only[n4] at c;subst c;rw[ay bq,ay (show gb 0 from(by decide:aP 0<=131072))]
 rw[aw f];have h:aP v.natAbs=aP e.natAbs+d:=(by grind [jr,r9]);by_cases a:gb v
 ·rw[ay a];unfold gb at a;rw[aw aa,g,pu,c]
 rw[aw a];unfold gb at a;grind
theorem aaM (a:gb b):gQ (cO b) (eD b)=Y b:=by
 by_cases c:b=0
 ·subst c;rfl
 rw[BT (v:=b) (by grind [eD]) (by
  grind [oy,cV,eD])]
 exact ay a
theorem KX (f a:Z):da (gQ f a):=by
 intro i b;unfold gQ at b;split at b
 ·cases b;show aP 0<=_;decide
 split at b
 ·cases b
 rename_i g h;cases b;unfold gb;rcases ary 0 (a+65536) with e|e
 ·obtain⟨c,d⟩:∃c:X,a+65536=c:=⟨(a+65536).toNat,aa⟩;grind [pu,jr,r9]
 obtain⟨c,d⟩:∃c:X,a+65536=-(c:Z):=⟨(-(a+65536)).toNat,aa⟩;rw[d,zm,BV ((ur aa).1 aa),Ds];omega
theorem W3 (a:Z):da (nb a):=by intro c b;grind [nb]
def GL (a b c:X) (f:bD) (d e:Z):Z:=mU f (b*2^a/c) (d-a) (bw (b*2^a %c≠0)) e
def SX (h:0<a) (e:0<c) (i:58+aP c<=aP a+k):58<=aP (a*2^k/c):=by
 rcases c6 57 (aP (a*2^k/c)) with b|b
 ·exact b
 exfalso;have d:a*2^k/c<2^57:=fY.1 b;rw[apa e] at d;have f:=(xM e).2;have g:a*2^k<2^57*2^aP c:=jS d (apm _ (Nat.le_of_lt f));rw[<-kk,<-fY,r9 h] at g;omega
def To (a b:X) (c d:Z):Z:=mU bu (Kk (b*2^a)) ((c-a)/2) (bw (Kk (b*2^a)*Kk (b*2^a)≠b*2^a)) d
def qg (a b:Z):Z:=if a=0 then 0 else mU (bw (a<0)) (cO a).natAbs (eD a) bu b
def sM (a b:X):X:=59+aP b-aP a
def zd (a b c:Z):Z:=GL (sM (cO a).natAbs (cO b).natAbs) (cO a).natAbs (cO b).natAbs (bw (a<0)!=bw (b<0)) (eD a-eD b) c
def Tn (a:X) (b:Z):X:=if(b-((118-aP a:X):Z)) %2=0 then 118-aP a else 118-aP a+1
def L8 (a b:Z):Z:=To (Tn (cO a).natAbs (eD a)) (cO a).natAbs (eD a) b
theorem fc {b:bp h} (c:a<b.length):az b (a:Z)=Y b[a]:=gj (cH c)
theorem CL (b:a<9223372036854775808):aD (a:Z)=(a:Z):=cA aa aa
theorem cG {x:Z} (a:-9223372036854775808<=x) (b:x<=9223372036854775807):aD x=x:=cA a b
theorem bk {n:X} (a:n<9223372036854775807):aT (n:Z)=((n+1:X):Z):=by grind [cA]
theorem gm {x:Z} (a:0<=x) (b:x<18446744073709551616):aS x=x:=CM a b
theorem mr {x:Z} (a:0<=x) (b:x<4294967296):eY x=x:=MP a b
theorem rJ (a:Z):eY a=a %4294967296:=MO a
theorem uV (a:Z):aS a=a %18446744073709551616:=Hx a
theorem sA (a:0<=b) (c:b<18446744073709551616):eY (fo bG b 4294967295)=b %4294967296:=by rw[and_low32 a c,mr aa aa]
theorem a8 (a:bp h):au a=(a.length:Z):=rfl
theorem G8 {b:bp h} (e:a<=b.length):((Y (0:X)).bind λc=>(hS (a:Z)).bind λd=>(iA c d b.length).map λ_=>(c,d))=Y (0,a):=by simp_all [aM,yV,yG,eU]
theorem px (n:a1 d) (o:d.length<=100000000):i6 (d,())=Y (jL d,()):=by
 unfold i6;refine bR.1 ?_;refine ah.aO (P:=λk=>∃a:X,k.1=(a:Z)/\a<=d.length/\(∀b,a<=b->(i:b<d.length)->d[b]=0)/\fK (d.take a)) ?_ ?_
 ·refine am3 (λf=>∃a:X,f.1=(a:Z)/\a<=d.length/\(∀b,a<=b->(i:b<d.length)->d[b]=0)) (λf=>f.1.toNat) ⟨d.length,bq,bf _,λb c e=>by omega⟩ ?_;rintro⟨_,_⟩ ⟨a,rfl,c,e⟩;rcases a with _|a
  ·refine bA.2 ⟨0,bq,eU _,e,λl j=>by grind⟩
  have ar:aD (((a+1:X):Z)-1)=(a:Z):=(by grind [cG]);have h:bw (((a+1:X):Z)>0)=bt:=aJ aa;simp only[ar,h,am2,bI,fc (show a<d.length from c),aM];by_cases g:d[a]=0
  ·rw[gV,aJ g];grind [cw,bA]
  rw[gV,aG g];refine bA.2 ⟨a+1,bq,c,e,λl j=>?_⟩;grind
 rintro⟨_,_⟩ ⟨a,rfl,c,e,m⟩;refine ah.of_eq (aq (G8 c) rfl) ?_;grind [Uq]
theorem Ap (a:d.length<=100000000):x9 (d,())=Y (d,()):=by show((c3 (([]:amv).length+d.length)).bind λ_=>Y (([]++d:amv),()))=Y (d,());grind [fe]
theorem sy:(au d==0)=bw (d=[]):=by simp_all [List.length_eq_zero_iff,gV,amD]
theorem xJ (c:a1 d) (e:d.length<=100000000):mJ (i,d,())=Y (aK (hK (i,d,())),()):=by unfold mJ;refine aq (px c e) ?_;have a:=Pd (neg:=i) (Un d) (Uo d);have b:hK (i,jL d,())=hK (i,d,()):=(by grind [Up,hK]);rw[<-b,<-a];simp only[sy,de];grind
def X1 (c:b.natAbs<2^(32*a)):(aK b).2.1.length<=a:=by refine tW ?_;unfold bb;have d:(2^(32*a):X)=4294967296^a:=(by rw[aqt]);rw[d] at c;have:((4294967296^a:X):Z)=4294967296^a:=ac;omega
def Fit (a:Z):Prop:=(aK a).2.1.length<=31250
def Pc (a:X) {z:Z} (b:aP z.natAbs<=32*a):(aK z).2.1.length<=a:=X1 (fY.1 b)
def jA (a:aP b.natAbs<=1000000):Fit b:=Pc 31250 aa
def Rt {b:qo} (c:a1 b.2.1) (a:b.2.1.length<=100000000):tM (b,())=Y (aK (hK b),()):=by obtain⟨e,d,_⟩:=b;unfold tM;exact aq (Ap a) (aq (xJ c a) rfl)
theorem Hq (a:bD) (b:amv):hK (!a,b,())=-hK (a,b,()):=by unfold hK;cases a<;>simp
theorem UC (b:a1 d) (a:bD):hK (bu,d,())=(hK (a,d,())).natAbs:=by have:=gB b;unfold hK;cases a<;>simp<;>omega
def K9 (e:Fit b):sg (aK b,())=Y (aK (-b),()):=by unfold sg;have a:(aK b).2.1.length<=100000000:=eE e ab;refine aq (Ap a) (aq (xJ (mL b) a) ?_);have c:=Hq (aK b).1 (aK b).2.1;have d:=oI b;rw[c];show Y (aK (-hK (aK b)),())=_;rw[d]
def z9 (d:Fit b):tK (aK b,())=Y (aK b.natAbs,()):=by unfold tK;have a:(aK b).2.1.length<=100000000:=eE d ab;refine aq (Ap a) (aq (xJ (mL b) a) ?_);rw[UC (mL b) (aK b).1];have c:=oI b;show Y (aK ((hK (aK b)).natAbs:Z),())=_;rw[c]
def Um (c:Fit b):i6 ((aK b).2.1,())=Y ((aK b).2.1,()):=by rw[px (mL b) (eE c ab)];have a:=aoM (mL b) (Fu b);show Y (fb (al (aK b).2.1).toNat,())=_;rw[<-a]
def gE (a:Z):Z:=if a=0 then 0 else if a<0 then-1 else 1
def sU {z:Z} (a:Fit z):oj (aK z,())=Y (gE z,()):=by
 unfold oj;refine aq (Um a) ?_;simp only[sy,de,wb];unfold gE;split
 ·rfl
 show(bif bw (z<0) then _ else _)=_;rw[de];split<;>rfl
theorem ah.steps {i:h->bv (h⊕u)} {g:u->Prop} (f:X) (d:X->h->Prop) {m:h} (o:d 0 m) (q:∀b a,b<f->d b a->ah (i a) (λ|.inl s=>d (b+1) s|.inr c=>g c)) (p:∀a,d f a->ah (i a) (λ|.inl _=>b7|.inr c=>g c)):ah (j5.loop i m) g:=by
 have r:∀e b a,b+e=f->d b a->∃c,kf i (e+1) a=Y c/\g c:=by
  intro e
  induction e with
  |zero=>
   intro b a n l;obtain rfl:b=f:=n;obtain⟨t,j,k⟩:=p a l;grind [kf]
  |succ e v=>
   intro b a n l;obtain⟨t,j,k⟩:=q b a aa l;grind [kf]
 obtain⟨c,j,k⟩:=r f 0 m aa o;exact⟨c,BM.2 ⟨_,j⟩,k⟩
theorem CK (b:amv) (a:X):al (b.take (a+1))=al (b.take a)+bb a*b.getD a 0:=by grind [amz,aoi,j3,bZ,cw]
theorem a1.getD {a:amv} (d:a1 a) (c:X):0<=a.getD c 0/\a.getD c 0<4294967296:=by
 rcases c6 c a.length with b|b
 ·rw[ji,cH b];exact d.get b
 grind
theorem k1 (b:a<d.length):d.getD a 0=d[a]:=by grind
theorem q7 (b:d.length<=a):d.getD a 0=0:=by grind
theorem SB (r:a1 d) (s:a1 f) (y:d.length<=10000000) (z:f.length<=10000000):x0 (d,f,())=Y (fb (al d+al f).toNat,()):=by
 unfold x0;refine bR.1 ?_;refine ah.aO (P:=λh=>∃i p,h=(i,p,())/\a1 i/\a1 p/\i.length<=10000000/\p.length<=i.length/\al i+al p=al d+al f) ?_ ?_
 ·simp only[de];refine ah.ite (λj=>bA.2 ⟨f,d,bq,s,r,z,?_,apn _ _⟩) λj=>bA.2 ⟨d,f,bq,r,s,y,?_,bq⟩
  ·grind
  grind
 rintro _ ⟨c,m,rfl,B,C,I,F,w⟩;rw[<-w];clear w r s y z;dsimp only;have A:aT (au c)=((c.length+1:X):Z):=bk aa;have ar:fR 0 ((c.length+1:X):Z)=Y 0:=(by unfold fR;rw[cc ⟨aa,aa,by have:hR=4294967296:=rfl;omega⟩];rfl);rw[A,ar];refine ah.aO (P:=λh=>∃b a,h=(b,a,())/\a.length=c.length/\a1 a/\0<=b/\b<=1/\al a+bb c.length*b=al c+al m) ?_ ?_
 ·refine ah.steps c.length (λe D=>∃b a,D=(b,(e:Z),a,())/\a.length=e/\a1 a/\0<=b/\b<=1/\al a+bb e*b=al (c.take e)+al (m.take e)) ⟨0,[],bq,bq,ana,aa,aa,by simp[al]⟩ ?_ ?_
  ·rintro e _ t ⟨b,a,rfl,n,k,l,q,v⟩;have G:=B.get t;have H:=C.getD e;have o:∃g,g=c[e]+b+m.getD e 0/\0<=g/\g<18446744073709551616/\g/4294967296<=1:=⟨_,bq,aa,aa,aa⟩;obtain⟨g,o,J,K,E⟩:=o;have u:bw ((e:Z)<au c)=bt:=aJ ae;simp only[u,bI,fc t,aM];refine ah.aO (P:=λh=>h=(g/4294967296,a++[g %4294967296],())) ?_ ?_
   ·refine ah.aO (P:=λh=>h=(g,a,())) ?_ ?_
    ·simp only[de];refine ah.ite (λj=>?_) λj=>?_
     ·grind [gm,bA,k1,fc,a8]
     have j:m.length<=e:=ae;rw[q7 j] at o;refine bA.2 ?_;rw[gm (x:=c[e]) aa aa,gm (x:=c[e]+b) aa aa,o,aoN]
    grind [fe,sA,oF,bA]
   rintro _ rfl;dsimp only;refine bA.2 ⟨g/4294967296,a++[g %4294967296],by rw[bk aa],ae,k.snoc aa aa,aa,E,?_⟩;rw[rH,n,iV,j3 t,CK];grind
  rintro _ ⟨b,a,rfl,n,k,l,q,v⟩;have u:bw ((c.length:Z)<au c)=bu:=aG ae;simp only[u,bQ];refine bA.2 ⟨b,a,bq,n,k,l,q,?_⟩;simp_all [gJ,bf]
 rintro _ ⟨b,a,rfl,n,k,l,q,v⟩;dsimp only;rw[fe ae,mr l aa];refine ah.of_eq (aq bq (aq (px (k.snoc l aa) ae) rfl)) ?_;grind [rH,jL]
def jU (b:amv) (c:X):Prop:=∀a,c<=a->(d:a<b.length)->b[a]=0
def jU.n2 (b a:X):jU (bM b (0:Z)) a:=λd _ c=>by simp
def jU.set {b:amv} {a:X} (c:jU b a) (e:Z):jU (b.set a e) (a+1):=λd f g=>by rw[C0 aa];exact c d aa _
def jU.Mh {j:X} (b:jU d a) (f:Z) (g:j<a):jU (d.set j f) a:=λe c h=>by rw[C0 aa];exact b e c _
theorem QZ (q:a1 d) (r:a1 f) (C:d.length<=10000000) (y:f.length<=d.length) (z:al f<=al d):xZ (d,f,())=Y (fb (al d-al f).toNat,()):=by
 unfold xZ;refine bR.1 ?_;simp only[a8,jq (aa:d.length<=4294967296),aM];refine ah.aO (P:=λh=>∃a b,h=(a,())/\a.length=d.length/\a1 a/\0<=b/\b<=1/\al a-bb d.length*b=al d-al f) ?_ ?_
 ·refine ah.steps d.length (λc t=>∃b a,t=(b,(c:Z),a,())/\a.length=d.length/\a1 a/\jU a c/\0<=b/\b<=1/\al a-bb c*b=al (d.take c)-al (f.take c)) ⟨0,_,bq,ac,ans _,jU.n2 _ _,aa,aa,by simp[al,s3]⟩ ?_ ?_
  ·rintro c _ l ⟨b,a,rfl,i,g,n,j,k,o⟩;have A:=q.get l;have B:=r.getD c;obtain⟨e,x,u,v⟩:∃e,e=d[c]-b-f.getD c 0/\-4294967296<=e/\e<4294967296:=⟨_,bq,aa,aa⟩;have m:bw ((c:Z)<(d.length:Z))=bt:=aJ aa;simp only[a8,m,bI,fc l,aM];refine ah.aO (P:=λh=>h=(-(e/4294967296),a.set c (e %4294967296),())) ?_ ?_
   ·refine ah.aO (P:=λh=>h=(e %18446744073709551616,a,())) ?_ ?_
    ·simp_all [q7,bA,uV,fc,k1,ah.ite,de]
    rintro _ rfl;dsimp only;rw[sA aa aa,nw aa,oF];refine bA.2 ?_;rw[tv 1 aa aa 1 ab ab];grind
   rintro _ rfl;dsimp only;refine bA.2 ⟨-(e/4294967296),a.set c (e %4294967296),by rw[bk aa],ae,g.set aa aa,n.set _,aa,aa,?_⟩;rw[oJ aa,n c (cj _) aa,iV,j3 l,CK];grind
  rintro _ ⟨b,a,rfl,i,g,n,j,k,o⟩;have m:bw ((d.length:Z)<(d.length:Z))=bu:=aG aa;simp only[a8,m,bQ];refine bA.2 ⟨a,b,bq,i,g,j,k,?_⟩;simp_all [gJ,bf]
 rintro _ ⟨a,b,rfl,i,g,j,k,o⟩;dsimp only;have p:=it g;have w:=hy d.length;rw[i] at p;have s:b=0:=ae;subst s;refine ah.of_eq (aq (px g aa) rfl) ?_;grind [jL]
def gh (a b:Z):Z:=if a<b then-1 else if b<a then 1 else 0
theorem DA (a b:Z):vJ (a,b,())=Y (gh a b,()):=by grind [vJ,tG,gh]
theorem Xl (a b:Z):DD (a,b,())=Y (gh a b,()):=by grind [DD,DF,gh]
theorem Hs (e:a1 d) (g:a1 f) (h:a<d.length) (i:a<f.length) (b:al (d.drop (a+1))=al (f.drop (a+1))) (l:d[a]<f[a]):al d<al f:=by rw[rI d a aa,rI f a aa,nZ h,nZ i,b];have c:=it (e.take a);have j:=gB (g.take a);rw[hz,iZ aa] at c;have k:bb a*(d[a]+1)<=bb a*f[a]:=mw aa (gT (hy a));grind
def s2 (a:a1 f) (b:a1 d) (c:fK d) (e:f.length<d.length):al f<al d:=by have g:=it a;have h:=fK.low b c ae;have i:=qe (m:=f.length) (n:=d.length-1) aa;omega
theorem IL (g:a1 d) (h:a1 f) (q:fK d) (r:fK f) (u:d.length<=10000000) (v:f.length<=10000000):xY (d,f,())=Y (gh (al d) (al f),()):=by
 unfold xY;refine bR.1 ?_;simp only[fZ,a8];by_cases m:d.length=f.length
 ·rw[aJ (aa:(d.length:Z)=f.length)];simp only[iI,bQ];refine ah.aO (P:=λn=>match n with|.inl _=>al d=al f|.inr o=>o=(gh (al d) (al f),())) ?_ ?_
  ·refine ah.steps d.length (λc p=>p=(((d.length:X):Z)-1-c,())/\al (d.drop (d.length-c))=al (f.drop (d.length-c))) ⟨?_,?_⟩ ?_ ?_
   ·grind [cG]
   ·rw[qu aa,qu aa]
   ·rintro c _ s ⟨rfl,e⟩;obtain⟨a,t⟩:∃a,d.length=a+1+c:=⟨d.length-1-c,aa⟩;have ar:((d.length:X):Z)-1-(c:Z)=(a:Z):=aa;have j:a<d.length:=aa;have k:a<f.length:=aa;rw[(aa:d.length-c=a+1)] at e;simp only[ar,aJ (aa:(a:Z)>=0),bI,fc j,fc k,aM,Xl];by_cases i:d[a]=f[a]
    ·simp only[aJ i,iI,bQ];grind [nZ,cG,bA]
    simp only[aG i,oK,bI];refine bA.2 ?_;show(gh d[a] f[a],())=_;have l:gh d[a] f[a]=gh (al d) (al f):=by
     unfold gh;rcases Int.lt_or_gt_of_ne i with b|b
     ·rw[ay b,ay (Hs g h j k e b)]
     have:=Hs h g k j e.symm b;omega
    rw[l]
   rintro _ ⟨rfl,e⟩;have ar:¬(((d.length:X):Z)-1-(d.length:Z)>=0):=aa;simp_all [bA,aG,bQ]
  grind [bA,gh,al]
 rw[aG (aa:¬(d.length:Z)=f.length)];simp only[oK,bI,DA,aM];refine bA.2 ?_;congr 1;unfold gh;rcases Nat.lt_or_gt_of_ne m with b|b
 ·rw[ay aa,ay (s2 g h r b)]
 have:=s2 h g q b;omega
def Gh {x y:Z} (b:0<=x/\x<4294967296) (a:0<=y/\y<4294967296):0<=x*y/\x*y<=18446744065119617025:=by refine⟨nA b.1 a.1,?_⟩;have c:x*y<=4294967295*y:=oQ aa a.1;omega
theorem agA (x:0<=b/\b<4294967296) (w:a1 d) (J:a+d.length<c) (H:c<=100000000) (u:f.length=c) (v:a1 f) (z:jU f (a+d.length)) {p:jk->Prop} (I:∀h e,e.length=c->a1 e->jU e (a+d.length)->0<=h->h<4294967296->al e+bb (a+d.length)*h=al f+bb a*(b*al d)->p (h,e,())):ah (loop (σ:=qQ) (ρ:=jk) (λ(k,j,m,_)=>
 bif bw (j<au d) then
 (az d j).bind λr=>
 rd m (aD ((a:Z)+j)) λs=>
 wr m (aD ((a:Z)+j)) (eY (fo bG (aS (aS (aS (aS b*aS r)+aS s)+k)) 4294967295)) λG=>
 (e8 bG (aS (aS (aS (aS b*aS r)+aS s)+k)) 32).bind λF=>
 Y (.inl (F,aT j,G,())) else
 Y (.inr (k,m,()))) (0,0,f,())) p:=by
 refine ah.steps d.length (λg C=>∃h e,C=(h,(g:Z),e,())/\e.length=c/\a1 e/\jU e (a+d.length)/\0<=h/\h<4294967296/\al e+bb (a+g)*h=al f+bb a*(b*al (d.take g))) ⟨0,f,bq,u,v,z,aa,aa,by simp[al]⟩ ?_ ?_
 ·rintro g _ l ⟨h,e,rfl,aB,o,q,bj,A,B⟩;have y:=w.get l;have L:=o.get (n:=a+g) aa;have K:=Gh x y;obtain⟨i,M,D,E⟩:∃i,i=b*d[g]+e[a+g]+h/\0<=i/\i<18446744073709551616:=⟨_,bq,aa,aa⟩;simp only[aJ (ae:(g:Z)<au d),bI,fc l,aM];have ar:aD ((a:Z)+(g:Z))=((a+g:X):Z):=(by grind [cG]);rw[ar,ky aa];have t:aS (aS (aS (aS b*aS d[g])+aS e[a+g])+h)=i:=by
   grind [gm]
  rw[t,sA D E,nw aa,oF];refine bA.2 ⟨i/4294967296,e.set (a+g) (i %4294967296),by rw[bk aa],ae,o.set aa aa,q.Mh _ aa,aa,aa,?_⟩;rw[oJ aa,(aa:a+(g+1)=(a+g)+1),iV,j3 l];grind [xd,aom]
 rintro _ ⟨h,e,rfl,aB,o,q,bj,A,B⟩;simp_all [gJ,bf,bA,aG,a8,bQ,au]
theorem ahM (u:a1 f) (v:a1 d) (y:f.length<=10000000) (z:d.length<=10000000):Eb (f,d,())=Y (fb (al f*al d).toNat,()):=by
 unfold Eb;refine bR.1 ?_;simp only[sy];refine ah.aO (P:=λp=>match p with|.inl _=>f≠[]/\d≠[]|.inr h=>h=(fb (al f*al d).toNat,())) ?_ ?_
 ·by_cases l:f=[]
  ·simp only[aJ l];refine bA.2 ?_;subst l;simp[al];rfl
  simp only[aG l,am2,bI];by_cases r:d=[]
  ·simp only[aJ r,bI];refine bA.2 ?_;subst r;simp[al];rfl
  simp_all [aG,bQ,bA]
 rintro(p|p) w
 rotate_left
 ·grind [bA]
 clear w;dsimp only;have t:aD (au f+au d)=((f.length+d.length:X):Z):=(by grind [cG,a8]);rw[t,jq aa,bT];refine ah.aO (P:=λh=>∃a,h=(a,())/\a.length=f.length+d.length/\a1 a/\al a=al f*al d) ?_ ?_
 ·refine ah.steps f.length (λb x=>∃a,x=((b:Z),a,())/\a.length=f.length+d.length/\a1 a/\jU a (b+d.length)/\al a=al (f.take b)*al d) ⟨_,bq,ac,ans _,jU.n2 _ _,by simp[al,s3]⟩ ?_ ?_
  ·rintro b _ m ⟨a,rfl,aB,g,q,bj⟩;simp only[aJ (ae:(b:Z)<au f),bI,fc m,bT];refine ah.aO (P:=λh=>∃e c,h=(e,c,())/\c.length=f.length+d.length/\a1 c/\jU c (b+d.length)/\0<=e/\e<4294967296/\al c+bb (b+d.length)*e=al a+bb b*(f[b]*al d)) (agA (u.get m) v aa aa aB g q λe c s n i j k o=>⟨e,c,bq,s,n,i,j,k,o⟩) ?_;rintro _ ⟨e,c,rfl,s,n,i,j,k,o⟩;have ar:aD ((b:Z)+au d)=((b+d.length:X):Z):=(by grind [cG,a8]);dsimp only;rw[ar,mr j k,nw aa];refine bA.2 ⟨c.set (b+d.length) e,by rw[bk aa],ae,n.set j k,?_,?_⟩
   ·rw[(aa:b+1+d.length=b+d.length+1)];exact i.set _
   rw[oJ aa,i _ (bf _) aa,j3 m,apo,o,bj];grind
  rintro _ ⟨a,rfl,aB,g,q,bj⟩;simp only[aG (ae:¬((f.length:Z)<au f)),bQ];refine bA.2 ⟨a,bq,aB,g,?_⟩;grind
 rintro _ ⟨a,rfl,aB,g,q⟩;refine ah.of_eq (aq (px g ae) rfl) ?_;grind [jL]
theorem aab:∀a:X,a<256->rG F3 (a:Z)=Y (aP a:Z):=by have b:(bK 256).all (λa=>rG F3 (a:Z)==Y (aP a:Z))=bt:=(by decide+kernel);grind
def Ml {x y:Z} (a:0<=y) (b:y<=32):e8 .u32 x y=Y (x/2^y.toNat):=by unfold e8;rw[ay a,show ch.bits=32 from rfl,iZ aa,arw _ ae]
def TU (a:0<=b) (c:b<=32):js .u32 e b=Y ((e*2^b.toNat) %4294967296):=by unfold js;rw[ay a,MO,show ch.bits=32 from rfl,iZ aa]
def aiB (a:0<=b) (c:b<256):aql.wrap b=b:=by unfold aoj;refine(aw (ac:¬(bu&&bw (b %256>=(128:Z)))=bt)).trans ?_;show b %256=b;omega
def N7 {n k:X} (a:2^k<=n):aP n=aP (n/2^k)+k:=by rw[Ds];have:=tB.2 a;omega
theorem Qv {n:X} (g:n<4294967296):x5 ((n:Z),())=Y ((aP n:Z),()):=by
 unfold x5;refine bR.1 ?_;refine ah.aO (P:=λd=>∃a b:X,d=((a:Z),(b:Z),())/\a<65536/\aP n=aP a+b/\b<=16) ?_ ?_
 ·simp only[de];refine ah.ite (λe=>?_) λe=>?_
  ·rw[Ml ab ab];refine bA.2 ⟨n/2^16,16,?_,aa,N7 aa,aa⟩;simp
  exact bA.2 ⟨n,0,bq,aa,bq,aa⟩
 rintro _ ⟨a,b,rfl,e,h,i⟩;refine ah.aO (P:=λd=>∃a b:X,d=((a:Z),(b:Z),())/\a<256/\aP n=aP a+b/\b<=24) ?_ ?_
 ·simp only[de];refine ah.ite (λc=>?_) λc=>?_
  ·rw[Ml ab ab];refine bA.2 ⟨a/2^8,b+8,?_,aa,by have:=N7 (n:=a) (k:=8) aa;omega,aa⟩;grind [cA]
  grind [bA]
 rintro _ ⟨f,o,rfl,c,j,l⟩;dsimp only;rw[aiB aa aa,aab f c];refine bA.2 ?_;have m:aP f<=8:=fY.2 aa;grind [cA]
theorem Wx {l:amv} {x:Z} (g:a1 l) (p:0<x):aP (al l+bb l.length*x).toNat=32*l.length+aP x.toNat:=by
 obtain⟨b,rfl⟩:=gd (gT p);obtain⟨d,o⟩:=gd (gB g);have f:=it g;rw[o] at f|-;have n:bb l.length=((2^(32*l.length):X):Z):=(by simp_all [aqt,bb]);rw[n] at f|-;generalize 32*l.length=a at*;have h:0<b:=aa;have j:((d:Z)+((2^a:X):Z)*(b:Z)).toNat=d+2^a*b:=aa;show aP ((d:Z)+((2^a:X):Z)*(b:Z)).toNat=_;rw[j];obtain⟨e,i⟩:=xM h;have q:=r8 h;obtain⟨c,m⟩:∃c,aP b=c+1:=⟨aP b-1,aa⟩;show _=a+aP b;rw[m] at e i|-;have r:d<2^a:=aa;refine N6 (k:=a+c) ?_ ?_
 ·rw[kk];have:=apm (2^a) e;grind
 rw[vk,kk] at*;have:=apm (2^a) (aa:b+1<=2^c*2);grind
theorem Qw (c:a1 d) (h:fK d) (k:d.length<=10000000):AK (d,())=Y ((aP (al d).toNat:Z),()):=by
 unfold AK;simp only[sy,de];split
 ·rename_i a;subst a;rfl
 rename_i a;have m:0<d.length:=C2.2 a;have ar:aD (au d-1)=((d.length-1:X):Z):=(by grind [cG,a8]);rw[ar,fc aa];have e:=c.get (n:=d.length-1) aa;have i:d[d.length-1]≠0:=h _ (by rw[arz,cH aa]);have f:al d=al (d.take (d.length-1))+bb (d.length-1)*d[d.length-1]:=(by grind [j3,amz]);have b:=Wx (l:=d.take (d.length-1)) (x:=d[d.length-1]) (c.take _) aa;rw[hz,iZ aa,<-f] at b;rw[b];obtain⟨n,g⟩:=gd e.1;rw[g] at e|-;refine aq bq (aq (Qv (n:=n) aa) ?_);have j:aP n<=32:=fY.2 aa;grind [cG]
def xL (a:Fit b):tL (aK b,())=Y ((aP b.natAbs:Z),()):=by unfold tL;refine aq (Um a) (aq (Qw (mL b) (Fu b) (eE a ab)) ?_);rw[i7];rfl
theorem aao (q:c=(2*k+1)*2^a) (m:c<2^32):c&&&(2^32-c)=2^a:=by
 have p:=kD a;have n:0<c:=ae;obtain⟨e,g⟩:∃e,c=e+1:=⟨c-1,aa⟩;have l:e=2^a*(2*k)+(2^a-1):=ae;have r:c=2^a*(2*k+1)+0:=ae;refine arA λb=>?_;rw[arB,g,Nat.testBit_two_pow_sub_succ aa,<-g];have ar:c.testBit b=if b<a then bu else(2*k+1).testBit (b-a):=by grind
 have i:e.testBit b=if b<a then(2^a-1).testBit b else(2*k).testBit (b-a):=by rw[l,Nat.testBit_two_pow_mul_add _ aa]
 rw[ar,i,aqg];by_cases f:b<a
 ·grind
 rw[aw f,aw f];by_cases j:a=b
 ·subst j;have d:a<32:=by
   rcases c6 a 32 with d|d
   ·exact d
   have:=vj (ab:1<=2) d;omega
  grind
 obtain⟨h,o⟩:∃h,b-a=h+1:=⟨b-a-1,aa⟩;grind
theorem WE:∀a:X,a<32->az qW (2^a*125613361 %4294967296/2^(27:Z).toNat)=Y (a:Z):=by have b:(bK 32).all (λa=>az qW (2^a*125613361 %4294967296/2^(27:Z).toNat)==Y (a:Z))=bt:=(by decide+kernel);grind
theorem Uv (e:0<a) (c:a<4294967296) (b:Z):eY (fo ch (a:Z) (eY (0-(a:Z)))*b)=2^cV a*b %4294967296:=by obtain⟨g,f⟩:=uT e;have ar:eY (0-(a:Z))=((2^32-a:X):Z):=(by grind [rJ]);have d:((2^cV a:X):Z)=2^cV a:=ac;rw[ar,ND c aa,aao f c,rJ,d]
theorem Uw {n:X} (b:0<n) (a:n<4294967296):x6 ((n:Z),())=Y ((cV n:Z),()):=by have e:cV n<32:=jS (sZ b) (fY.2 a);have d:=WE _ e;have c:=Ml (x:=eY (fo ch (n:Z) (eY (0-(n:Z)))*125613361)) (y:=27) ab ab;rw[Uv b a 125613361] at c;unfold x6;show(bif (n:Z)==0 then Y (32,()) else(e8 ch (eY (fo ch (n:Z) (eY (0-(n:Z)))*125613361)) 27).bind λf=>(az qW f).bind λg=>Y (aD g,()))=_;rw[a2 ae,Uv b a 125613361,c];refine aq bq (aq d ?_);grind [cG]
theorem Ux {x:Z} (r:al (d.take c)=0) (g:c<d.length) (h:a1 d) (s:d[c]≠0):cV (al d).toNat=32*c+cV (d[c]).toNat:=by
 have q:=h.get g;rw[rI d c aa,r,nZ g];have p:=gB (h.drop (c+1));generalize al (d.drop (c+1))=u at*;generalize d[c]=v at*;obtain⟨b,rfl⟩:=gd q.1;obtain⟨e,rfl⟩:=gd p;have i:0<b:=aa;obtain⟨j,m⟩:=uT i;have t:cV b<32:=jS (sZ i) (fY.2 aa);have o:bb c=((2^(32*c):X):Z):=(by unfold bb;rw[aqt];simp);have k:(0+bb c*((b:Z)+4294967296*(e:Z))).toNat=(b+4294967296*e)*2^(32*c):=(by rw[o,anZ,nG (b+4294967296*e)];have:((2^(32*c):X):Z)*((b:Z)+4294967296*(e:Z))=((2^(32*c)*(b+4294967296*e):X):Z):=(by rw[pF];simp);rw[this];rfl);show cV (0+bb c*((b:Z)+4294967296*(e:Z))).toNat=32*c+cV b;rw[k,CF aa,anO];congr 1;obtain⟨f,n⟩:∃f,32=cV b+(f+1):=⟨31-cV b,aa⟩;refine zu (a:=j+2^f*e) ?_;have l:(4294967296:X)=2^cV b*(2^f*2):=by
  have:(4294967296:X)=2^32:=rfl;rw[this]
  conv=>lhs;rw[n]
  rw[kk,vk]
 rw[l]
 conv=>lhs;lhs;rw[m]
 grind
def Uy {z:Z} (o:Fit z) (r:z≠0):AH (aK z,())=Y ((cV z.natAbs:Z),()):=by
 unfold AH;dsimp only;have i:=mL z;have u:=i7 z;have s:(aK z).2.1.length<=31250:=o;generalize(aK z).2.1=b at*;have m:z.natAbs=(al b).toNat:=aa;rw[m];refine bR.1 (ah.aO (P:=λh=>match h with|.inl _=>b7|.inr p=>p=((cV (al b).toNat:Z),())) ?_ ?_)
 ·refine ah.steps b.length (λa q=>q=((a:Z),())/\al (b.take a)=0) ⟨bq,bq⟩ ?_ ?_
  ·rintro a _ f ⟨rfl,e⟩;have j:=i.get f;simp only[aJ (show(a:Z)<au b by simp only[a8];omega),bI,fc f,aM,fZ];by_cases c:b[a]=0
   ·simp only[aJ c,iI,bQ];refine bA.2 ⟨by rw[bk aa],?_⟩;rw[j3 f,c,e];simp
   simp only[aG c,oK,bI];have k:=Ux (x:=0) e f i c;rw[k];obtain⟨d,l⟩:=gd j.1;rw[l] at j c|-;have t:cV d<32:=jS (sZ aa) (fY.2 aa);refine ah.of_eq (aq (Uw (n:=d) aa aa) rfl) ?_;show(aD (aD ((a:Z)*32)+(cV d:Z)),())=_;rw[cG (x:=(a:Z)*32) aa aa,cG aa aa];congr 1;show _=((32*a+cV d:X):Z);omega
  rintro _ ⟨rfl,e⟩;exfalso;rw[gJ (bf _)] at e;omega
 rintro(h|h) g
 ·exact g.elim
 have g:h=_:=g;rw[g];exact bA.2 bq
theorem y5 (a:X):((2^a:X):Z)=(2:Z)^a:=by simp
theorem lv (a:X):(0:Z)<2^a:=l0 ab
theorem y6 (b:a<=31):(2:Z)^a<=2147483648:=by have c:=vj (ab:0<2) b;grind
def wL {p:X} (a:p<=32):(4294967296:Z)=2^p*2^(32-p):=by rw[<-nB,(aa:p+(32-p)=32)];rfl
theorem rM (a:X):bb a=2^(32*a):=by unfold bb;rw[Int.pow_mul];rfl
def aed {k:X} {x y:Z} (j:k<=32) (e:0<=x) (f:x<2^k) (g:0<=y) (o:y<4294967296) (i:y %2^k=0):hu .u32 x y=x+y/\x+y<4294967296:=by
 have c:=lv k;have u:=wL j;have t:=lv (32-k);have s:y=2^k*(y/2^k):=(by have:=m3 y (2^k);omega);have r:y/2^k<2^(32-k):=by
  rcases lB (y/2^k) (2^(32-k)) with b|b
  ·exact b
  have:=mw b (gT c);omega
 have q:2^k*(y/2^k+1)<=2^k*2^(32-k):=mw aa (gT c);have p:(2:Z)^k*(y/2^k+1)=2^k*(y/2^k)+2^k:=ae;have n:x+y<4294967296:=aa;refine⟨?_,n⟩;obtain⟨d,rfl⟩:=gd e;obtain⟨a,rfl⟩:=gd g;have m:d<2^k:=(by have:((d:X):Z)<((2^k:X):Z):=(by simpa using f);omega);have l:a %2^k=0:=(by have:((a %2^k:X):Z)=0:=(by simpa using i);omega);rw[aeb aa aa];have h:a=(a/2^k)*2^k:=(by have:=zT a (2^k);rw[l,nG] at this;omega);rw[h,NG k m];simp
theorem MG {n:X} (E:a1 d) (ad:d.length<=10000000) (U:n<=100000000):x1 (d,(n:Z),())=Y (fb (al d*2^n).toNat,()):=by
 unfold x1;simp only[sy,de];split
 ·rename_i h;subst h;simp[al];rfl
 refine bR.1 ?_;obtain⟨a,e,J,V,H,I⟩:∃a e:X,n=32*a+e/\e<32/\kN bN (n:Z) 32=some (a:Z)/\jH (n:Z) 32=some (e:Z):=by
  refine⟨n/32,n %32,aa,aa,?_,?_⟩
  ·unfold kN;rw[ay ab,HE aa,cA aa aa];simp
  unfold jH;rw[ay ab,HF aa];simp
 have l:=lv e;have D:=wL (p:=e) aa;have v:aT (aD ((a:Z)+au d))=((a+d.length+1:X):Z):=(by simp only[a8];rw[cG aa aa,(ac:(a:Z)+(d.length:Z)=((a+d.length:X):Z)),bk aa]);rw[H,I,aM,aM,v,jq aa,aM];refine ah.aO (P:=λq=>∃c,q=(c,())/\c.length=a+d.length+1/\a1 c/\al c=bb a*(2^e*al d)) ?_ ?_
 ·refine ah.steps d.length (λb L=>∃c,L=((b:Z),c,())/\c.length=a+d.length+1/\a1 c/\jU c (a+b+1)/\(∀h:a+b<c.length,c[a+b]<2^e)/\al c=bb a*(2^e*al (d.take b))) ⟨_,bq,ac,ans _,jU.n2 _ _,λh=>by simp;exact l,by simp[al,s3]⟩ ?_ ?_
  ·rintro b _ m ⟨c,rfl,aB,g,i,bj,o⟩;have s:=E.get m;have F:=g.get (n:=a+b) aa;have G:=bj aa;dsimp only;rw[cc (show(b:Z)<au d by simp only[a8];omega),fc m,bT];have ar:aD ((a:Z)+(b:Z))=((a+b:X):Z):=(by rw[cG aa aa];simp);have T:d[b]*2^e<4294967296*2^e:=aqu s.2 l;have S:(2:Z)^e<=2147483648:=y6 aa;obtain⟨f,r,M,N⟩:∃f,f=d[b]*2^e/\0<=f/\f<18446744073709551616:=⟨_,bq,apl s.1 (anj l),aa⟩;have w:js bG (aS d[b]) (aS (e:Z))=Y f:=by
    rw[gm (x:=d[b]) aa aa,gm (x:=(e:Z)) aa aa,qk aa aa,fV,<-r];congr 1;omega
   have z:f %4294967296 %2^e=0:=(by rw[arC _ ⟨_,D⟩,r,apq]);have A:f/4294967296<2^e:=(by refine u4 ab ?_;rw[mv];omega);obtain⟨B,Q⟩:=aed (k:=e) (x:=c[a+b]) (y:=f %4294967296) aa F.1 G aa aa z;rw[w];simp only[aM];rw[ar,ky aa,sA M N,B,nw aa,oF,aM,bk aa,mr aa aa,nw (by simp;omega)];refine bA.2 ⟨(c.set (a+b) (c[a+b]+f %4294967296)).set (a+b+1) (f/4294967296),by rw[bk aa],by simp[aB],(g.set aa aa).set aa aa,?_,?_,?_⟩
   ·have:=(i.Mh (c[a+b]+f %4294967296) (j:=a+b) aa).set (f/4294967296);exact this
   ·intro h;show((c.set (a+b) (c[a+b]+f %4294967296)).set (a+b+1) (f/4294967296))[a+b+1]'h<2^e
    rw[arD];exact A
   have O:(c.set (a+b) (c[a+b]+f %4294967296))[a+b+1]'(by simp;omega)=0:=by rw[C0 aa];exact i _ aa aa
   rw[oJ (by simp;omega),O,oJ aa,o,j3 m,iV,xd];have R:=m3 f 4294967296;generalize f/4294967296=K at*;generalize f %4294967296=q at*;generalize(2:Z)^e=t at*;generalize d[b]=u at*;generalize c[a+b]=am at*;have C:q=u*t-4294967296*K:=aa;subst C;grind
  rintro _ ⟨c,rfl,aB,g,i,bj,o⟩;dsimp only;rw[b6 (show¬((d.length:Z)<au d) by simp only[a8];omega)];refine bA.2 ⟨c,bq,aB,g,?_⟩;rw[o,amz (cj _)]
 rintro _ ⟨c,rfl,aB,g,i⟩;refine ah.of_eq (aq (px g (by show c.length<=_;omega)) rfl) ?_;show(jL c,())=_;rw[jL,i,rM,J,nB];congr 3;grind
def Xq (k:a1 d) (o:d.length<=10000000):AU (d,(),())=Y (bw (al d≠0),()):=by
 unfold AU;refine bR.1 ?_;refine ah.aO (P:=λi=>∃g,i=(g,())/\(0<=g↔al d≠0)) ?_ ?_
 ·unfold I9;dsimp only;refine ah.aO (P:=λc=>match c with|.inl _=>al d=0|.inr i=>0<=i.1/\al d≠0) ?_ ?_
  ·refine ah.steps d.length (λa m=>m=((a:Z),())/\al (d.take a)=0) ⟨bq,bq⟩ ?_ ?_
   ·rintro a _ e ⟨rfl,b⟩;have l:=k.get e;simp only[aJ (show(a:Z)<au d by simp only[a8];omega),bI,fc e,aM,IV,fZ];by_cases h:d[a]=0
    ·simp only[aJ h,iI,bQ];refine bA.2 ⟨by rw[bk aa],?_⟩;rw[j3 e,h,b];simp
    simp only[aG h,oK,bI];refine bA.2 ⟨by show(0:Z)<=(a:Z);omega,?_⟩;rw[rI d a aa,b,nZ e];have j:=gB (k.drop (a+1));have n:0<bb a*(d[a]+4294967296*al (d.drop (a+1))):=tb (hy a) aa;omega
   rintro _ ⟨rfl,b⟩;simp only[aG (show¬((d.length:Z)<au d) by simp only[a8];omega),bQ];refine bA.2 ?_;rw[gJ (bf _)] at b;exact b
  rintro(c|c) f
  ·have f:al d=0:=f;exact bA.2 ⟨_,bq,by rw[f];simp⟩
  obtain⟨b,j⟩:0<=c.1/\al d≠0:=f;exact bA.2 ⟨c.1,bq,λ_=>j,λ_=>b⟩
 rintro _ ⟨g,rfl,l⟩;refine bA.2 ?_;show(bw (g>=0),())=_;congr 1;rw[amD];exact l
def NF (a:X) (c:0<=b) (g:b<4294967296) (e:a<=32):fo .u32 b (2^a-1)=b %2^a:=by obtain⟨i,rfl⟩:=gd c;have f:0<2^a:=kD a;have d:(2:Z)^a-1=((2^a-1:X):Z):=(by rw[Int.natCast_sub f];simp);have h:2^a<=2^32:=vj ab e;rw[d,ND aa aa,aqp];simp
def QL {x b y:Z} {P P':Z} (e:0<b) (f:0<=x/\x<b) (h:0<P):(x+b*y) %(b*P)=0↔x=0/\y %P=0:=by
 constructor
 ·intro a;have g:x=0:=by
   have c:(x+b*y) %b=0:=(by have:=arC (x+b*y) (show b∣b*P from⟨P,bq⟩);rw[a] at this;simpa using this.symm);rw[zH,u5 f.1 f.2] at c;exact c
  subst g;rw[anZ,arE _ _ e] at a;exact⟨bq,by rcases zI.1 a with d|d;omega;exact d⟩
 rintro⟨rfl,a⟩;rw[anZ,arE _ _ e,a,Int.mul_zero]
theorem OY {n:X} (i:a1 d) (bx:fK d) (dg:d.length<=10000000) (cv:n<=1000000000):AJ (d,(n:Z),())=Y (fb (al d/2^n).toNat,bw (al d %2^n≠0),()):=by
 unfold AJ;dsimp only;refine bR.1 ?_;obtain⟨a,e,a4,c1,av,a3⟩:∃a e:X,n=32*a+e/\e<32/\kN bN (n:Z) 32=some (a:Z)/\jH (n:Z) 32=some (e:Z):=by
  refine⟨n/32,n %32,aa,aa,?_,?_⟩
  ·unfold kN;rw[ay ab,HE aa,cA aa aa];simp
  unfold jH;rw[ay ab,HF aa];simp
 have B:=lv e;have G:=wL (p:=e) aa;have ad:(2:Z)^n=bb a*2^e:=(by rw[rM,a4,nB]);have K:=gB i;rw[av,a3,aM,aM,de,ad];refine ah.ite (λk=>?_) λk=>?_
 ·have k:d.length<=a:=(by simp only[a8] at k;omega);have m:=it i;have r:=qe k;have F:bb a*1<=bb a*2^e:=mw aa (gT (hy a));rw[rO K aa,u5 K aa];refine bA.2 ?_;show(([]:amv),bw (au d>0),())=(fb 0,_,());rw[Pj];congr 2;rw[amD];simp only[a8];constructor
  ·intro o C;have:=aqr i bx C;rw[this] at o;simp at o
  intro o;have:d≠[]:=λO=>(by rw[O] at o;exact o bq);have:=C2.2 this;omega
 have k:a<d.length:=(by simp only[a8] at k;omega);have w:=i.get k;obtain⟨f,u⟩:∃f,f=al (d.drop a):=⟨_,bq⟩;have H:0<=f:=(by rw[u];exact gB (i.drop a));have J:al d=al (d.take a)+bb a*f:=(by rw[u];exact rI d a aa);have I:=gB (i.take a);have E:=it (i.take a);rw[hz,iZ aa] at E;have an:al d/(bb a*2^e)=f/2^e:=(by rw[<-u2 (gT (hy a)),J,xi _ _ (by have:=hy a;omega),rO I E,anZ]);refine ah.aO (P:=λq=>q=(bw (al d %(bb a*2^e)≠0),())) ?_ ?_
 ·rw[G8 aa,aM];have ar:apr 0 (List.take a d)=d.take a:=nC;show ah ((AU (apr 0 (List.take a d),(),())).bind _) _;rw[ar,Xq (i.take a) (by simp;omega),aM];have D:(bw (al d %(bb a*2^e)≠0))=(bw (al (d.take a)≠0)||bw (d[a] %2^e≠0)):=by
   have m:=QL (x:=al (d.take a)) (b:=bb a) (y:=f) (P:=2^e) (P':=0) (hy a) ⟨I,E⟩ B;rw[<-J] at m;have r:f %2^e=d[a] %2^e:=(by rw[u,nZ k,G,ju,zH]);rw[r] at m;by_cases A:al (d.take a)=0<;>by_cases T:d[a] %2^e=0<;>simp[A,T,m]
  rw[D];dsimp only;by_cases A:al (d.take a)=0
  ·simp only[aG (show¬(al (d.take a)≠0) fromλk=>k A),am2,bI,fc k,aM];rw[gm (x:=(e:Z)) aa aa,TU aa aa,aM,fV,Int.one_mul];have ce:(2:Z)^e<=2147483648:=y6 aa;rw[u5 aa aa,mr aa aa,NF e w.1 w.2 aa,fZ];refine bA.2 ?_;simp
  simp only[aJ (show al (d.take a)≠0 from A)];exact bA.2 bq
 rintro _ rfl;dsimp only;obtain⟨l,cs⟩:∃l,d.length=a+l:=⟨d.length-a,aa⟩;have Q:aD (au d-(a:Z))=((l:X):Z):=(by simp only[a8];rw[cG aa aa];omega);rw[Q,jq aa,bT];have ci:f<bb l:=(by have:=it (i.drop a);rw[aqa,(aa:d.length-a=l),<-u] at this;exact this);refine ah.aO (P:=λq=>∃g,q=(g,())/\g.length=l/\a1 g/\al g=f/2^e) ?_ ?_
 ·refine ah.steps l (λc bs=>∃g,bs=((c:Z),g,())/\g.length=l/\a1 g/\al (g.take c)+bb c*(f/2^e/bb c)=f/2^e) ⟨_,bq,ac,ans _,by simp[al,zz]⟩ ?_ ?_
  ·rintro c _ co ⟨g,rfl,aB,z,s⟩;have w:=i.get (n:=a+c) aa;have bl:=i.getD (a+c+1);have D:bw ((c:Z)<au (bM l (0:Z)))=bt:=aJ (by simp only[a8,rT];omega);have ar:aD ((a:Z)+(c:Z))=((a+c:X):Z):=(by rw[cG aa aa];simp);have R:aT ((a+c:X):Z)=((a+c+1:X):Z):=bk aa;simp only[D,bI,ar,R,fc (aa:a+c<d.length),aM];obtain⟨j,v,L,ds⟩:∃j,j=d[a+c]+4294967296*d.getD (a+c+1) 0/\0<=j/\j<18446744073709551616:=⟨_,bq,aa,aa⟩;have am:f/bb c=j+4294967296*(4294967296*al (d.drop (a+c+2))):=by
    have m:d.drop a=(d.drop a).take c++d.drop (a+c):=by
     conv=>lhs;rw[<-kC c (d.drop a)]
     rw[td]
    have r:f=al ((d.drop a).take c)+bb c*al (d.drop (a+c)):=by
     rw[u]
     conv=>lhs;rw[m]
     rw[qn,hz,oT,iZ aa]
    have F:=gB ((i.drop a).take c);have o:=it ((i.drop a).take c);rw[hz,oT,iZ aa] at o;have C:al (d.drop (a+c))=d[a+c]+4294967296*al (d.drop (a+c+1)):=nZ aa;have U:al (d.drop (a+c+1))=d.getD (a+c+1) 0+4294967296*al (d.drop (a+c+2)):=by
     rcases c6 (a+c+1) d.length with h|h
     ·rw[k1 h];exact nZ h
     rw[q7 h,qu h,qu aa];rfl
    rw[r,xi _ _ (by have:=hy c;omega),rO F o,C,U,v];grind
   have ap:f/2^e/bb c %4294967296=j/2^e %4294967296:=(by have m:f/2^e/bb c=f/bb c/2^e:=(by rw[u2 (gT B),u2 (gT (hy c)),mv]);rw[m,am];have r:∀t:Z,j+4294967296*(4294967296*t)=j+2^e*(4294967296*(2^(32-e)*t)):=λt=>(by generalize(2:Z)^e=M at*;generalize(2:Z)^(32-e)=N at*;rw[show(4294967296:Z)*(4294967296*t)=(M*N)*(4294967296*t) by rw[<-G]];grind);rw[r,xi _ _ aa,zH]);have a0:0<=j/2^e:=oP L (gT B);have c2:j/2^e<=j:=u3 _ L;refine ah.aO (P:=λq=>q=(g.set c (j/2^e %4294967296),())) ?_ ?_
   ·refine ah.aO (P:=λq=>q=(j,g,())) ?_ ?_
    ·simp only[de];refine ah.ite (λh=>?_) λh=>?_
     ·have h:a+c+1<d.length:=(by simp only[a8] at h;omega);rw[fc h,aM,gm (x:=d[a+c+1]) (by have:=i.get h;omega) (by have:=i.get h;omega),qk ab ab];rw[k1 h] at v bl;have S:d[a+c+1]*2^(32:Z).toNat %18446744073709551616=4294967296*d[a+c+1]:=by
       rw[show(2:Z)^(32:Z).toNat=4294967296 from rfl];omega
      rw[aM,S,gm aa aa,nS 32 w.1 w.2 aa aa aa aa];refine bA.2 ?_;rw[<-v]
     have h:d.length<=a+c+1:=(by simp only[a8] at h;omega);rw[q7 h] at v;rw[gm aa aa];refine bA.2 ?_;rw[v];simp
    rintro _ rfl;dsimp only;rw[gm (x:=(e:Z)) aa aa,Cx aa aa,bT,am8,sA a0 aa,nw aa];exact bA.2 bq
   rintro _ rfl;dsimp only;refine bA.2 ⟨g.set c (j/2^e %4294967296),by rw[bk aa],by simp[aB],z.set aa aa,?_⟩;rw[j3 (by simp;omega)];simp only[arD];rw[List.take_set_of_le aa,<-ap,iV,aon 4294967296 (bb c),<-arF (anj (hy c))];have V:=aom (f/2^e/bb c) 4294967296;generalize f/2^e/bb c %4294967296=q at*;generalize f/2^e/bb c/4294967296=dl at*;rw[<-V] at s;grind
  rintro _ ⟨g,rfl,aB,z,s⟩;simp only[aG (show¬((l:Z)<au (bM l (0:Z))) by simp only[a8,rT];omega),bQ];refine bA.2 ⟨g,bq,aB,z,?_⟩;have m:0<=f/2^e:=oP H (gT B);have r:f/2^e<=f:=u3 _ H;rw[rO m aa,gJ aa] at s;simpa using s
 rintro _ ⟨g,rfl,aB,z,s⟩;refine ah.of_eq (aq (px z (by show g.length<=_;omega)) rfl) ?_;show(jL g,_,())=_;rw[jL,s,an]
section
theorem B7 (a:cn) (b c:Z):hu a b c=hu a c b:=by grind [BitVec.or_comm,hu]
theorem MC {x y:Z} (b:0<=x/\x<4294967296) (a:0<=y/\y<4294967296):js .u64 x 32=Y (4294967296*x)/\hu .u64 (4294967296*x) (aS y)=4294967296*x+y:=by
 constructor
 ·grind [qk]
 rw[gm a.1 aa,B7,nS 32 a.1 a.2 aa aa aa aa,apn]
theorem LV {x y:Z} (a:0<=x/\x<18446744073709551616) (c:0<y):kN .u64 x y=Y (x/y)/\jH x y=Y (x %y):=by
 constructor
 ·unfold kN;rw[ay aa,HE a.1];have b:x/y<=x:=u3 _ a.1;grind [CM,an0]
 unfold jH;grind
theorem ag7 (k:a1 d) (I:d.length<=10000000) (g:0<b) (E:b<4294967296):Ea (d,b,())=Y (fb (al d/b).toNat,al d %b,()):=by
 unfold Ea;refine bR.1 ?_;simp only[a8,jq (aa:d.length<=4294967296),aM];refine ah.aO (P:=λs=>∃c,s=(al d %b,c,())/\c.length=d.length/\a1 c/\al c=al d/b) ?_ ?_
 ·refine ah.steps d.length (λf t=>∃c,t=(al (d.drop (d.length-f)) %b,((d.length:X):Z)-1-f,c,())/\c.length=d.length/\a1 c/\(∀a,a<d.length-f->(p:a<c.length)->c[a]=0)/\al c=bb (d.length-f)*(al (d.drop (d.length-f))/b)) ⟨bM d.length 0,?_,ac,ans _,ac,?_⟩ ?_ ?_
  ·rw[cG aa aa,qu aa];simp[al]
  ·simp_all [s3,qu,al]
  ·rintro f _ F ⟨c,rfl,aB,h,i,bj⟩;obtain⟨a,p⟩:∃a,d.length=a+1+f:=⟨d.length-1-f,aa⟩;have ar:((d.length:X):Z)-1-(f:Z)=(a:Z):=aa;have o:a<d.length:=aa;rw[(aa:d.length-f=a+1)] at*;have r:=k.get o;obtain⟨e,j⟩:∃e,e=al (d.drop (a+1)):=⟨_,bq⟩;have C:0<=e:=(by rw[j];exact gB (k.drop _));rw[<-j] at bj|-;have q:0<=e %b:=pD _ aa;have G:e %b<b:=rP _ g;obtain⟨u,v⟩:=MC (x:=e %b) (y:=d[a]) ⟨q,aa⟩ r;obtain⟨w,z⟩:=LV (x:=4294967296*(e %b)+d[a]) (y:=b) ⟨aa,aa⟩ g;have m:(4294967296*(e %b)+d[a])/b<4294967296:=by
    refine u4 g ?_;omega
   have n:0<=(4294967296*(e %b)+d[a])/b:=oP aa aa;simp only[ar,aJ (aa:(a:Z)>=0),bI,fc o,u,aM];rw[v,gm (x:=b) aa aa,w,aM,mr n m,nw aa,z,aM];have D:=m3 e b;have H:al (d.drop a)=d[a]+4294967296*e:=(by grind [nZ]);have l:al (d.drop a)=(4294967296*(e %b)+d[a])+b*(4294967296*(e/b)):=ae;refine bA.2 ⟨c.set a ((4294967296*(e %b)+d[a])/b),?_,ae,h.set n m,?_,?_⟩
   ·rw[(aa:d.length-(f+1)=a),cG aa aa,l,zH];grind
   ·grind
   rw[(aa:d.length-(f+1)=a),l,xi _ _ aa,oJ aa,i a aa aa,bj,iV];grind
  rintro _ ⟨c,rfl,aB,h,i,bj⟩;have ar:¬(((d.length:X):Z)-1-(d.length:Z)>=0):=aa;simp_all [zz,bA,vl,aG,bQ]
 rintro _ ⟨c,rfl,aB,h,i⟩;have B:al d %b<b:=rP _ g;have A:0<=al d %b:=pD _ aa;refine ah.of_eq (aq (px h ae) rfl) ?_;show(jL c,eY (al d %b),())=_;grind [mr,jL]
section
variable {α B:Type}
theorem r7 {c b e:bp α} (f:a<b.length) (d:α->bv B):be (c++(b++e)) (c.length+a) d=d b[a]:=by simp_all [qz,th,qy,cH,gP]
def G6 {b c d:bp α} (f:a<c.length) (e:α):(b++(c++d)).set (b.length+a) e=b++(c.set a e++d):=by rw[List.set_append_right _ _ aa,th,List.set_append_left _ _ f]
end
theorem Yh {v1 fy d f a c g:Z} (r:0<e) (q:d=(v1*4294967296+fy)*e+v) (o:f=(a*4294967296+c)*e+g) (j:0<=v) (p:g<e) (h:0<=b) (k:(a-b*v1)*4294967296+c<b*fy):f<b*d:=by have i:a*4294967296+c+1<=b*(v1*4294967296+fy):=ae;have l:(a*4294967296+c+1)*e<=b*(v1*4294967296+fy)*e:=oQ i aa;have m:0<=b*v:=nA h j;have n:b*d=b*(v1*4294967296+fy)*e+b*v:=ae;grind
def Yi {v1 fy a f c d g:Z} (t:0<e) (r:a=(v1*4294967296+fy)*e+v) (p:f=(c*4294967296+d)*e+g) (s:0<=v/\v<e) (q:0<=g) (h:0<=b/\b<4294967296) (u:1<=v1) (w:0<=fy) (j:b*fy<=(c-b*v1)*4294967296+d):b*a<f+a:=by have i:b*(v1*4294967296+fy)<=c*4294967296+d:=ae;have k:b*(v1*4294967296+fy)*e<=(c*4294967296+d)*e:=oQ i aa;have l:b*v<=b*e:=mw aa h.1;have m:b*a=b*(v1*4294967296+fy)*e+b*v:=ae;have n:b*e<=4294967295*e:=oQ aa aa;have o:4294967296*e<=(v1*4294967296+fy)*e:=oQ aa aa;omega
end
theorem MK (b:d.length=a+2):al d=(d[a+1]*4294967296+d[a])*bb a+al (d.take a):=by grind [j3,iV,amz]
theorem aik (b:d.length=a+3):al d=((d[a+2]*4294967296+d[a+1])*4294967296+d[a])*bb a+al (d.take a):=by grind [iV,j3,amz]
structure zB (v w:amv) (n:X):Prop where
 hv:a1 v
 hw:a1 w
 Hv:v.length=n+2
 wn:w.length=n+3
 Ro:n<=10000000
 top:2147483648<=v[n+1]
 lt:al w<4294967296*al v
theorem zB.UI {n:X} (a:zB d f n):0<al d:=by
 have b:=MK a.Hv;have c:=gB (a.hv.take n);have e:=a.hv.get (n:=n) ae;have g:=a.top;have h:0<(d[n+1]'(by grind)*4294967296+d[n]'(by grind))*bb n:=tb aa (hy n)
 omega
theorem Yj {j:amv} {n:X} (h:zB f d n) (r:b=(4294967296*d[n+2]'(by have:=h.wn;omega)+d[n+1]'(by have:=h.wn;omega))/f[n+1]'(by have:=h.Hv;omega)) (ci:e=(4294967296*d[n+2]'(by grind)+d[n+1]'(by grind)) %f[n+1]'(by grind)):ah (loop (σ:=(es×Z×Z×cR×bz)) (ρ:=(es×Z×cR×bz)) (λ(l,o,B,t,_)=>
 bE (α:=(es×cR×bz)⊕((es×Z×Z×cR×bz)⊕(es×Z×cR×bz))) (bif bw (o>4294967295)==bu then(az f (aD (au f-2))).bind λd1=>
 (js bG B 32).bind λd2=>
 (bn (l.2-l.1) (aD (au f-2))).bind λdg=>
 (be t (l.1+dg) λam=>Y am).bind λd3=>
  bif bw (aS (o*aS d1)>hu bG d2 (aS d3)) then
 Y (.inl (l,t,())) else
 Y (.inr (.inr (l,o,t,()))) else Y (.inl (l,t,()))) λa=>match a with
 |.inl (O,P,_)=>(
 (az f (aD (au f-1))).bind λp=>
  bif bw (aS (B+aS p)>4294967295) then
 Y (.inr (O,aS (o-1),P,())) else
 Y (.inl (O,aS (o-1),aS (B+aS p),P,())))
 |.inr i=>Y i) ((g.length,g.length+d.length),b,e,g++(d++j),())) (λi=>∃a,i=((g.length,g.length+d.length),a,g++(d++j),())/\0<=a/\a<4294967296/\al d/al f<=a/\a*al f<al d+al f):=by
 have c1:=h.Hv;have c2:=h.wn;have fn:=h.Ro;have bl:=h.UI;have f5:=h.hv.get (n:=n+1) aa;have s:=h.hv.get (n:=n) aa;have fz:=h.hw.get (n:=n+2) aa;have fT:=h.hw.get (n:=n+1) aa;have cv:=h.hw.get (n:=n) aa;have ft:=h.top;have K:=MK c1;have w:=aik c2;have E:=gB (h.hv.take n);have F:=it (h.hv.take n);have R:=gB (h.hw.take n);have G:=it (h.hw.take n);rw[hz,iZ aa] at F G;have bx:=h.lt;have z:=hy n;have ar:aD (au f-1)=((n+1:X):Z):=(by grind [cG,a8]);have ad:aD (au f-2)=((n:X):Z):=(by grind [cG,a8]);have ap:az f ((n+1:X):Z)=Y f[n+1]:=fc aa;have av:az f ((n:X):Z)=Y f[n]:=fc aa;have a0:∀q:Z->amp,be (g++(d++j)) (g.length+n) q=q d[n]:=λq=>r7 aa q;generalize f0:f[n+1]=v1 at*;generalize f1:f[n]=fy at*;generalize f2:d[n+2]=D at*;generalize f3:d[n+1]=d0 at*;generalize f4:d[n]=k at*;obtain⟨c,co⟩:∃c,c=4294967296*D+d0:=⟨_,bq⟩;rw[<-co] at r ci;have w:al d=(c*4294967296+k)*bb n+al (d.take n):=ae;have eq:D<=v1:=by
  rcases lB v1 D with m|m
  ·exfalso;have S:(v1*4294967296+fy+1)*bb n<=(v1*4294967296+4294967296)*bb n:=oQ aa aa;have H:((v1+1)*4294967296*4294967296)*bb n<=(c*4294967296+k)*bb n:=oQ aa aa;grind
  omega
 have ek:0<=al d/al f:=oP (gB h.hw) aa;have el:al d/al f<4294967296:=u4 bl bx;have cs:0<=c:=aa;have em:=m3 c v1;have fr:0<=c %v1:=pD _ aa;have fs:c %v1<v1:=rP _ aa;have fp:0<=c/v1:=oP cs aa;have T:∀a,0<=a->(c-a*v1)*4294967296+k<a*fy->al d/al f<a:=λa r h=>(by have:=Yh z K w E G r h;simp_all [u4]);have an:∀a,0<=a->a<4294967296->a*fy<=(c-a*v1)*4294967296+k->a*al f<al d+al f:=λa a3 a4 h=>Yi z K w ⟨E,F⟩ R ⟨a3,a4⟩ aa s.1 h;refine am3 (λC=>∃a i,C=((g.length,g.length+d.length),a,i,g++(d++j),())/\0<=a/\a<=4294967297/\0<=i/\i<4294967296/\i=c-a*v1/\al d/al f<=a) (λC=>C.2.1.toNat) ⟨b,e,bq,aa,?_,aa,aa,?_,?_⟩ ?_
 ·rw[r];have:c<4294967298*v1:=aa;have:=u4 aa this;omega
 ·grind
 ·rcases lB (c/v1) (al d/al f) with m|m
  ·exfalso;have S:(c/v1+1)*al f<=al d:=by
    have v:(c/v1+1)*al f<=al d/al f*al f:=oQ aa aa;have U:=m3 (al d) (al f);have I:=pD (al d) (aa:al f≠0);grind
   have H:(c+1)*4294967296<=(c/v1+1)*(v1*4294967296):=ae;have d4:(c+1)*4294967296*bb n<=(c/v1+1)*(v1*4294967296)*bb n:=oQ H aa;have d5:0<=(c/v1+1)*(fy*bb n+al (f.take n)):=nA aa (by have:=nA s.1 (gT z);omega);have d6:(c/v1+1)*al f=(c/v1+1)*(v1*4294967296)*bb n+(c/v1+1)*(fy*bb n+al (f.take n)):=ae;have d7:(k+1)*bb n<=4294967296*bb n:=oQ aa aa;grind
  omega
 rintro _ ⟨a,i,rfl,v,U,I,V,d8,d9⟩;have ce:∀a,(a-1)*v1=a*v1-v1:=λa=>ae;have J:al d/al f<a->ah ((az f (aD (au f-1))).bind λp=>
  bif bw (aS (i+aS p)>4294967295) then
 Y (.inr ((g.length,g.length+d.length),aS (a-1),g++(d++j),())) else
 Y (
  .inl ((g.length,g.length+d.length),aS (a-1),aS (i+aS p),g++(d++j),()))) (λ(Q:(es×Z×Z×cR×bz)⊕(es×Z×cR×bz))=>match Q with
  |.inl N=>(∃a i,N=((g.length,g.length+d.length),a,i,g++(d++j),())/\0<=a/\a<=4294967297/\0<=i/\i<4294967296/\i=c-a*v1/\al d/al f<=a)/\N.2.1.toNat<a.toNat
  |.inr i=>∃a,i=((g.length,g.length+d.length),a,g++(d++j),())/\0<=a/\a<4294967296/\al d/al f<=a/\a*al f<al d+al f):=by
  intro ex;rw[ar,ap,aM,gm (x:=v1) aa aa,gm (x:=i+v1) aa aa,gm (x:=a-1) aa aa,de];refine ah.ite (λm=>?_) λm=>?_
  ·refine bA.2 ⟨a-1,bq,aa,?_,aa,?_⟩
   ·grind
   have bs:a-1<4294967296:=ae;refine an (a-1) aa bs ?_;rw[ce];have f6:(a-1)*fy<=4294967295*fy:=oQ aa s.1;omega
  refine bA.2 ⟨⟨a-1,i+v1,bq,aa,aa,aa,aa,?_,aa⟩,?_⟩
  ·grind
  show(a-1).toNat<a.toNat;omega
 by_cases L:a>4294967295
 ·simp only[aJ L,show(bt==bu)=bu from rfl,bQ,aM];refine(J aa).mono ?_;rintro(u|u) A
  ·exact A
  omega
 simp only[aG L,am2,bI,ad,av,aM];obtain⟨dl,ds⟩:=MC (x:=i) (y:=k) ⟨I,V⟩ cv;have fl:=Gh (x:=a) (y:=fy) ⟨v,aa⟩ s;rw[dl,aM];simp only[th,e4 (aa:n<d.length),aM,a0,ds];rw[gm (x:=fy) aa aa,gm (x:=a*fy) aa aa];by_cases M:a*fy>4294967296*i+k
 ·simp only[aJ M,bI,aM];refine(J (T a v aa)).mono ?_;rintro(u|u) A
  ·exact A
  omega
 simp only[aG M,bQ,aM];grind [bA]
theorem ahA {r:amv} (L:a1 d) (M:a1 f) (a4:d.length<f.length) (ap:f.length<=100000000) (K:0<=b/\b<4294967296) (av:∀h e a,a.length=f.length->a1 a->(∀(D:d.length<a.length) (m:d.length<f.length),a[d.length]=f[d.length])->0<=h->h<4294967296->0<=e->e<=1->al a-bb d.length*(h+e)=al f-b*al d->w ((g.length,g.length+f.length),h,e,g++(a++r),())):ah (loop (σ:=(es×Z×Z×Z×cR×bz)) (ρ:=(es×Z×Z×cR×bz)) (λ(j,p,s,o,q,_)=>
 bif bw (o<au d) then
 (az d o).bind λu=>
 (e8 bG (aS (aS (b*aS u)+p)) 32).bind λU=>
 (bn (j.2-j.1) o).bind λP=>
 (be q (j.1+P) λC=>Y C).bind λA=>
 (bn (j.2-j.1) o).bind λz=>
 (be q (j.1+z) λ_=>Y (q.set (j.1+z) (eY (fo bG (aS (aS (aS A-fo bG (aS (aS (b*aS u)+p)) 4294967295)-s)) 4294967295)))).bind λad=>
 (e8 bG (aS (aS (aS A-fo bG (aS (aS (b*aS u)+p)) 4294967295)-s)) 32).bind λV=>
 Y (.inl (j,U,fo bG V 1,aT o,ad,())) else
 Y (.inr (j,p,s,q,()))) ((g.length,g.length+f.length),0,0,0,g++(f++r),())) w:=by
 refine ah.steps d.length (λc T=>∃h e a,T=((g.length,g.length+f.length),h,e,(c:Z),g++(a++r),())/\a.length=f.length/\a1 a/\(∀l,c<=l->(D:l<a.length)->(m:l<f.length)->a[l]=f[l])/\0<=h/\h<4294967296/\0<=e/\e<=1/\al a-bb c*(h+e)=al f-b*al (d.take c)) ⟨0,0,f,bq,bq,M,λ_ _ _ _=>rfl,aa,aa,aa,aa,by simp[al]⟩ ?_ ?_
 ·rintro c _ t ⟨h,e,a,rfl,v,m,y,E,F,G,H,I⟩;have N:=L.get t;have bl:=m.get (n:=c) aa;have a3:=Gh K N;obtain⟨k,J,Q,R⟩:∃k,k=b*d[c]+h/\0<=k/\k<18446744073709551616:=⟨_,bq,aa,aa⟩;simp only[aJ (ae:(c:Z)<au d),bI,fc t,aM];have ar:aS (aS (b*aS d[c])+h)=k:=by
   rw[gm (x:=d[c]) aa aa,gm (x:=b*d[c]) aa aa,<-J,gm Q R]
  rw[ar];obtain⟨i,a0,am,an⟩:∃i,i=a[c]-k %4294967296-e/\-4294967296<=i/\i<4294967296:=⟨_,bq,aa,aa⟩;have B:aS (aS (aS a[c]-fo bG k 4294967295)-e)=i %18446744073709551616:=(by simp_all [and_low32,uV]);have aB:i %18446744073709551616/4294967296 %2^1=-(i/4294967296):=aa;have S:i %18446744073709551616 %4294967296=i %4294967296:=aa;simp only[oF,th,e4 (aa:c<f.length),aM,r7 (aa:c<a.length),B,sA (aa:0<=i %18446744073709551616) aa,G6 (aa:c<a.length)];rw[tv 1 aa aa 1 ab ab,aB,S];refine bA.2 ⟨k/4294967296,-(i/4294967296),a.set c (i %4294967296),by rw[bk aa],by simp[v],m.set aa aa,?_,aa,aa,aa,aa,?_⟩
  ·intro l bs bx O;rw[C0 aa];exact y l aa aa O
  rw[oJ aa,iV,j3 t];grind
 rintro _ ⟨h,e,a,rfl,v,m,y,E,F,G,H,I⟩;simp_all [bA,bf,gJ,aG,a8,bQ,au]
theorem VY {m:amv} (C:a1 f) (D:a1 d) (L:f.length<d.length) (J:d.length<=100000000) (K:∀c a,a.length=d.length->a1 a->(∀(v:f.length<a.length) (i:f.length<d.length),a[f.length]=d[f.length])->0<=c->c<=1->al a+bb f.length*c=al d+al f->y ((g.length,g.length+d.length),c,g++(a++m),())):ah (loop (σ:=(es×Z×Z×cR×bz)) (ρ:=(es×Z×cR×bz)) (λ(e,o,k,l,_)=>
 bif bw (k<au f) then
 (az f k).bind λr=>
 (bn (e.2-e.1) k).bind λE=>
 (be l (e.1+E) λu=>Y u).bind λs=>
 (bn (e.2-e.1) k).bind λq=>
 (be l (e.1+q) λ_=>Y (l.set (e.1+q) (eY (fo bG (aS (aS (aS s+aS r)+o)) 4294967295)))).bind λI=>
 (e8 bG (aS (aS (aS s+aS r)+o)) 32).bind λH=>
 Y (.inl (e,H,aT k,I,())) else
 Y (.inr (e,o,l,()))) ((g.length,g.length+d.length),0,0,g++(d++m),())) y:=by
 refine ah.steps f.length (λb F=>∃c a,F=((g.length,g.length+d.length),c,(b:Z),g++(a++m),())/\a.length=d.length/\a1 a/\(∀j,b<=j->(v:j<a.length)->(i:j<d.length)->a[j]=d[j])/\0<=c/\c<=1/\al a+bb b*c=al d+al (f.take b)) ⟨0,d,bq,bq,D,λ_ _ _ _=>rfl,aa,aa,by simp[al]⟩ ?_ ?_
 ·rintro b _ p ⟨c,a,rfl,w,i,x,z,A,B⟩;have N:=C.get p;have O:=i.get (n:=b) aa;obtain⟨h,M,G,P⟩:∃h,h=a[b]+f[b]+c/\0<=h/\h<8589934592:=⟨_,bq,aa,aa⟩;simp only[aJ (ae:(b:Z)<au f),bI,fc p,aM];have t:aS (aS (aS a[b]+aS f[b])+c)=h:=by
   grind [gm]
  simp only[oF,th,e4 (aa:b<d.length),aM,r7 (aa:b<a.length),t,sA G (aa:h<18446744073709551616),G6 (aa:b<a.length)];refine bA.2 ⟨h/4294967296,a.set b (h %4294967296),by rw[bk aa],ae,i.set aa aa,?_,aa,aa,?_⟩
  ·grind
  grind [oJ,iV,j3,aom]
 rintro _ ⟨c,a,rfl,w,i,x,z,A,B⟩;simp_all [bA,bf,gJ,aG,a8,bQ,au]
theorem XG {a d g c h f:Z} (j:a+b*d=v+e) (i:v=c-g*e-b*(4294967296*-1)):a+b*(h+d-4294967296*f-h)=c-(g-1)*e+b*(4294967296*(1-f)):=by grind
theorem XH {d c g a h f:Z} (i:e-b*(d+c)=v-g*a):e+b*(h-d-c-4294967296*f-h)=v-g*a-b*(4294967296*f):=by grind
theorem ah.bs {c:bv h} {b:h->bv u} {a:u->Prop} {y:h} (d:c=Y y) (e:ah (b y) a):ah (c.bind b) a:=by grind
def XI {A C:amv} {n:X} (i:zB d f n):ah (AI ((A++(f++C),A.length,A.length+f.length),d,())) (λq=>∃b,q=(A++(b++C),al f/al d,())/\b.length=f.length/\a1 b/\al b=al f %al d):=by
 have H:=i.Hv;have dl:=i.wn;have ex:=i.Ro;have k:=i.UI;have a4:=gB i.hw;have fn:=i.top;have Q:=i.hv.get (n:=n+1) aa;have O:=i.hw.get (n:=n+2) aa;have c2:=i.hw.get (n:=n+1) aa;have D:au d=((n+2:X):Z):=(by simp only[a8];omega);have ar:aD (((n+2:X):Z)-1)=((n+1:X):Z):=(by rw[cG aa aa];omega);have a0:az d ((n+1:X):Z)=Y d[n+1]:=fc aa;obtain⟨ds,ap⟩:=MC (x:=f[n+2]) (y:=f[n+1]) O c2;obtain⟨d0,d1⟩:=LV (x:=4294967296*f[n+2]+f[n+1]) (y:=d[n+1]) ⟨aa,aa⟩ aa;unfold AI;have m:bn (A.length+f.length-A.length) (au d)=Y (n+2):=(by rw[th,D];exact e4 aa);have i1:bn (A.length+f.length-A.length) (aD (au d-1))=Y (n+1):=(by rw[th,D,ar];exact e4 aa);have R:az d (aD (au d-1))=Y d[n+1]:=(by rw[D,ar];exact a0);refine ah.bs m (ah.bs (r7 aa _) (ah.bs (by rw[gm O.1 aa];exact ds) (ah.bs i1 (ah.bs (r7 aa _) (ah.bs R (ah.bs (by rw[ap,gm Q.1 aa];exact d0) (ah.bs R (ah.bs (by rw[ap,gm Q.1 aa];exact d1) ?_))))))));refine ah.aO (Yj i bq rfl) ?_;rintro _ ⟨g,rfl,an,aB,ft,fz⟩;refine ah.aO (P:=λq=>∃e j b,q=((A.length,A.length+f.length),e,j,A++(b++C),())/\b.length=f.length/\a1 b/\0<=e/\e<4294967296/\0<=j/\j<=1/\(∀(i:d.length<b.length) (L:d.length<f.length),b[d.length]=f[d.length])/\al b-bb d.length*(e+j)=al f-g*al d) (ahA i.hv i.hw aa aa ⟨an,aB⟩ λe j b p v T U V ad am w=>⟨e,j,b,bq,p,v,U,V,ad,am,T,w⟩) ?_;rintro _ ⟨e,j,b,rfl,p,v,U,V,ad,am,T,w⟩;have fp:=v.get (n:=n+2) aa;obtain⟨c,bl,d4,d5⟩:∃c,c=b[n+2]-e-j/\-4294967296<=c/\c<4294967296:=⟨_,bq,aa,aa⟩;have K:aS (aS (aS b[n+2]-e)-j)=c %18446744073709551616:=(by rw[uV,uV,uV,bl];omega);have d2:c %18446744073709551616/4294967296 %2^1=-(c/4294967296):=(by rw[show(2:Z)^1=2 from rfl];omega);have d3:c %18446744073709551616 %4294967296=c %4294967296:=aa;refine ah.bs m (ah.bs (r7 aa _) (ah.bs m (ah.bs (y:=A++(b.set (n+2) (c %4294967296)++C)) ?_ (ah.bs (y:=c %18446744073709551616/4294967296) ?_ ?_))))
 ·rw[r7 aa,K,sA aa aa,G6 aa,d3]
 ·rw[K,oF]
 rw[tv 1 aa aa 1 ab ab,d2];have d9:=hy (n+2);have cv:al (b.set (n+2) (c %4294967296))=al b+bb (n+2)*(c %4294967296-b[n+2]):=oJ aa _;have r:a1 (b.set (n+2) (c %4294967296)):=v.set aa aa;rw[H] at w;have d6:=m3 c 4294967296;have s:al (b.set (n+2) (c %4294967296))=al f-g*al d-bb (n+2)*(4294967296*(c/4294967296)):=(by rw[cv];generalize c/4294967296=z at*;generalize c %4294967296=B at*;have:B=b[n+2]-e-j-4294967296*z:=aa;rw[this];exact XH w);have ci:=it r;have ek:=gB r;rw[zO,p,dl,(aa:n+3=(n+2)+1),iV] at ci;have M:=m3 (al f) (al d);have em:=pD (al f) (aa:al d≠0);have eq:=rP (al f) k;rw[gV,de];refine ah.ite (λav=>?_) λav=>?_
 ·have F:c/4294967296=0:=aa;rw[F] at s;have l:al f/al d=g:=by
   have E:g*al d<=al f:=aa;have L:g<=al f/al d:=(arG k).2 E;omega
  rw[a5 (by simp;omega),mr an aB];refine bA.2 ⟨_,by rw[l],by simp[p],r,?_⟩;rw[s];rw[l] at M;rw[mv g];omega
 have F:c/4294967296=-1:=aa;rw[F] at s;have l:al f/al d=g-1:=(by have E:al f<g*al d:=aa;have L:al f/al d<g:=u4 k E;have d7:(g-1)*al d<al f+1:=(by have:(g-1)*al d=g*al d-al d:=ae;omega);have d8:g-1<=al f/al d:=(arG k).2 aa;omega);have fl:=oP a4 (gT k);have G:(b.set (n+2) (c %4294967296)).length=f.length:=(by simp[p]);rw[<-G];refine ah.aO (P:=λq=>∃e a,q=((A.length,A.length+(b.set (n+2) (c %4294967296)).length),e,A++(a++C),())/\a.length=f.length/\a1 a/\0<=e/\e<=1/\al a+bb d.length*e=al (b.set (n+2) (c %4294967296))+al d) (VY i.hv r aa aa λe a I o fs J S u=>⟨e,a,bq,by rw[I,G],o,J,S,u⟩) ?_;rintro _ ⟨h,a,rfl,I,o,J,S,u⟩;rw[G];have fr:=o.get (n:=n+2) aa;refine ah.bs m (ah.bs (r7 aa _) (ah.bs m (ah.bs (y:=A++(a.set (n+2) ((a[n+2]+h) %4294967296)++C)) ?_ ?_)))
 ·rw[r7 aa,G6 aa,mr J aa,rJ]
 rw[a5 (by simp;omega),gm aa aa,mr aa aa];refine bA.2 ⟨a.set (n+2) ((a[n+2]+h) %4294967296),by rw[l],by simp[I],o.set aa aa,?_⟩;have c1:al (a.set (n+2) ((a[n+2]+h) %4294967296))=al a+bb (n+2)*((a[n+2]+h) %4294967296-a[n+2]):=oJ aa _;have N:a1 (a.set (n+2) ((a[n+2]+h) %4294967296)):=o.set aa aa;have co:=it N;have el:=gB N;have ce:(a.set (n+2) ((a[n+2]+h) %4294967296)).length=(n+2)+1:=(by rw[zO];omega);rw[ce,iV] at co;have f2:=m3 (a[n+2]+h) 4294967296;rw[H] at u;have t:al (a.set (n+2) ((a[n+2]+h) %4294967296))=al f-(g-1)*al d+bb (n+2)*(4294967296*(1-(a[n+2]+h)/4294967296)):=(by rw[c1];generalize(a[n+2]+h)/4294967296=z at*;generalize(a[n+2]+h) %4294967296=B at*;have:B=a[n+2]+h-4294967296*z:=aa;rw[this];exact XG u s);rw[l] at M;have bx:al f-(g-1)*al d=al f %al d:=(by rw[mv (g-1)];omega);rw[bx] at t;have dg:=it i.hv;rw[H] at dg;have cs:(a[n+2]+h)/4294967296=1:=by
  rcases lB 0 ((a[n+2]+h)/4294967296) with a3|a3
  ·omega
  exfalso;have:(a[n+2]+h)/4294967296=0:=aa;rw[this] at t;omega
 rw[cs] at t;rw[t];simp
theorem Bl (a:0<=b):al (fb b.toNat)=b:=by grind [tX]
def abf {n:X} (f:a1 d) (m:fK d) (u:d.length=n+2):∃c:X,c<=31/\Et (d[n+1],())=Y ((c:Z),())/\al d*2^c<bb (n+2)/\2147483648*bb (n+1)<=al d*2^c:=by
 have l:=f.get (n:=n+1) aa;have q:d[n+1]≠0:=m _ (by rw[arz,cH aa];congr 2;omega);have h:al d=al (d.take (n+1))+bb (n+1)*d[n+1]:=(by rw[<-j3 aa,gJ aa]);have r:=gB (f.take (n+1));have j:=it (f.take (n+1));rw[hz,iZ aa] at j;generalize d[n+1]=v at*;obtain⟨a,rfl⟩:=gd l.1;have i:0<a:=aa;have t:aP a<=32:=fY.2 aa;have s:=r8 i;obtain⟨g,o⟩:=xM i;obtain⟨b,k⟩:∃b,aP a=b+1:=⟨aP a-1,aa⟩;refine⟨32-aP a,aa,?_,?_,?_⟩
 ·unfold Et;refine aq (Qv (n:=a) aa) ?_;show Y (aD (32-(aP a:Z)),())=_;rw[cG aa aa];congr 2;omega
 ·have ar:al d<bb (n+1)*2^aP a:=by
   have:bb (n+1)*((a:Z)+1)<=bb (n+1)*2^aP a:=mw (by rw[<-y5];omega) (gT (hy _));have p:bb (n+1)*((a:Z)+1)=bb (n+1)*(a:Z)+bb (n+1):=(by rw[arH,aoO]);show al d<_;rw[h];show al (d.take (n+1))+bb (n+1)*(a:Z)<_;omega
  have e:al d*2^(32-aP a)<bb (n+1)*2^aP a*2^(32-aP a):=xj ar (lv _);rw[ju,<-nB,(aa:aP a+(32-aP a)=32)] at e;rw[iV,mv];rw[mv];have:bb (n+1)*2^32=4294967296*bb (n+1):=(by rw[mv];rfl);omega
 have ar:bb (n+1)*2^b<=al d:=(by have:bb (n+1)*2^b<=bb (n+1)*(a:Z):=mw (by rw[<-y5];rw[k] at g;simp only[aqv] at g;omega) (gT (hy _));rw[h];show _<=al (d.take (n+1))+bb (n+1)*(a:Z);omega);have e:bb (n+1)*2^b*2^(32-aP a)<=al d*2^(32-aP a):=oQ ar (gT (lv _));rw[ju,<-nB,(aa:b+(32-aP a)=31)] at e;have:bb (n+1)*2^31=2147483648*bb (n+1):=(by rw[mv];rfl);omega
def XK (g:al d=b) (e:a1 d) (l:fK d) (q:b<bb (a+2)) (r:2147483648*bb (a+1)<=b):∃c:d.length=a+2,2147483648<=d[a+1]:=by
 have t:=hy (a+1);have k:d.length=a+2:=by
  have o:=it e;have h:d≠[]:=λi=>(by rw[i] at g;simp only[al] at g;omega);have p:=fK.low e l h;rcases vi d.length (a+2) with c|c|c
  ·have:=qe (m:=d.length) (n:=a+1) aa;omega
  ·exact c
  have:=qe (m:=a+2) (n:=d.length-1) aa;omega
 refine⟨k,?_⟩;have s:al d=al (d.take (a+1))+bb (a+1)*d[a+1]:=(by rw[<-j3 aa,gJ aa]);have j:=it (e.take (a+1));rw[hz,iZ aa] at j;rcases lB d[a+1] 2147483648 with f|f
 ·exfalso;have:bb (a+1)*(d[a+1]+1)<=bb (a+1)*2147483648:=mw aa aa;rw[arH,aoO] at this;omega
 exact f
def XL {g c h f d a:Z} (k:(f+b*(h+a))+e*c=g) (i:h=e*v+d):(f+b*(d+a))+e*(c+b*(v-0))=g:=by subst i;have ar:b*(e*v+d+a)=b*(d+a)+b*(e*v):=ae;have j:e*(c+b*(v-0))=e*c+b*(e*v):=ae;omega
def XJ {n:X} (z:a1 d) (J:al d=b) (d5:b<bb (n+2)) (L:d.length=n+2) (a3:2147483648<=d[n+1]) (co:n<=10000000) (a4:a1 f) (am:al f=e) (V:f.length=c) (el:c=a+(n+2)) (d4:c<=10000000) (ap:al (f.drop a)<b) {H:m7->Prop} (ad:∀i h,i.length=a->a1 i->h.length=c->a1 h->al h+b*al i=e->al h<b->H (i,h,())):ah (loop (σ:=(Z×cR×cR×bz)) (ρ:=m7) (λ(r,P,u,_)=>
 bif bw (r>=0) then
 ((hS r).bind λM=>(hS (aT (aD (r+au d)))).bind λN=>(iA M N u.length).bind λ_=>(y4 u.length).map λ_=>(M,N)).bind λt=>
  bif cg t.1 t.2 then
 (AI ((u,t.1,t.2),d,())).bind λ(ci,cs,_)=>
 wr P r cs λdl=>
 Y (.inl (aD (r-1),dl,ci,())) else br else
 Y (.inr (P,u,()))) (aD (au (bM a (0:Z))-1),bM a (0:Z),f,())) H:=by
 have K:0<b:=(by have o:=MK L;have q:=gB (z.take n);have d0:=z.get (n:=n) aa;have d1:0<(d[n+1]*4294967296+d[n])*bb n:=tb aa (hy n);omega);refine ah.steps a (λl cv=>∃i h,cv=(((a:X):Z)-1-l,i,h,())/\i.length=a/\a1 i/\(∀g,g<a-l->(an:g<i.length)->i[g]=0)/\h.length=c/\a1 h/\al h+b*al i=e/\al (h.drop (a-l))<b) ⟨bM a 0,f,?_,ac,ans _,ac,V,a4,by rw[s3,am];omega,ap⟩ ?_ ?_
 ·rw[show aD (au (bM a (0:Z))-1)=(a:Z)-1-((0:X):Z) from ?_];simp only[a8,rT];rw[cG aa aa];omega
 ·rintro l _ d9 ⟨i,h,rfl,aB,E,F,G,p,o,q⟩;obtain⟨g,an⟩:∃g,a=g+1+l:=⟨a-1-l,aa⟩;have ar:((a:X):Z)-1-(l:Z)=(g:Z):=aa;rw[(aa:a-l=g+1)] at q;have R:aT (aD ((g:Z)+au d))=((g+(n+3):X):Z):=by
   simp only[a8];rw[cG aa aa,(aa:(g:Z)+(d.length:Z)=((g+(n+2):X):Z)),bk aa];rfl
  simp only[ar,aJ (aa:(g:Z)>=0),bI,R,yV,aM,yG (aa:g<=g+(n+3)/\g+(n+3)<=h.length),SC (aa:0<h.length),jT,show cg g (g+(n+3))=bt from by simp];obtain⟨m,v⟩:∃m,m=h.take g:=⟨_,bq⟩;obtain⟨j,B⟩:∃j,j=(h.drop g).take (n+3):=⟨_,bq⟩;obtain⟨k,x⟩:∃k,k=h.drop (g+(n+3)):=⟨_,bq⟩;have w:m.length=g:=(by rw[v,hz];omega);have s:j.length=n+3:=(by rw[B,hz,oT];omega);have y:h=m++(j++k):=(by rw[v,B,x,<-td,kC,kC]);have d2:k.length=c-(g+(n+3)):=(by rw[x,oT,G]);have ce:a1 m:=(by rw[v];exact p.take g);have D:a1 j:=(by rw[B];exact(p.drop g).take _);have O:a1 k:=(by rw[x];exact p.drop _);have d6:al (h.drop g)=al j+bb (n+3)*al k:=(by rw[y,u9 aa,vb aa,h3,qn,s]);have d7:al (h.drop g)=h[g]+4294967296*al (h.drop (g+1)):=nZ aa;have eq:=p.get (n:=g) aa;have T:=gB O;have d3:0<=bb (n+3)*al k:=nA (gT (hy _)) T;have ek:al (h.drop g)<4294967296*b:=aa;have U:al k=0:=by
   rcases lB 0 (al k) with S|S
   ·exfalso;have:=mw (aa:1<=al k) (gT (hy (n+3)));have ds:bb (n+3)=4294967296*bb (n+2):=iV (n+2);have:=gB D;omega
   omega
  have Q:zB d j n:=⟨z,D,L,s,co,a3,by rw[J];omega⟩;have av:0<=al j/b:=an0 (gB D) aa;have a0:al j/b<4294967296:=Int.ediv_lt_of_lt_mul K aa;have d8:=aom (al j) b;have em:=aqw (al j) K;have I:=XI (A:=m) (C:=k) Q;rw[<-y,w,s,J] at I;refine ah.aO I ?_;rintro _ ⟨c1,rfl,c2,dg,eY⟩;dsimp only;rw[nw aa];refine bA.2 ⟨i.set g (al j/b),m++(c1++k),?_,by simp[aB],E.set av a0,?_,by simp;omega,aqx.2 ⟨ce,aqx.2 ⟨dg,O⟩⟩,?_,?_⟩
  ·rw[cG aa aa];congr 1;omega
  ·intro bs ex bx;rw[C0 aa];exact F bs aa (by simpa using bx)
  ·rw[oJ aa,F g aa aa,qn,qn,w,eY];rw[y,qn,qn,w] at o;rw[c2];rw[s] at o;have bl:al j=b*(al j/b)+al j %b:=aa;exact XL o bl
  rw[(aa:a-(l+1)=g),u9 aa,vb aa,h3,qn,U,eY];omega
 rintro _ ⟨i,h,rfl,aB,E,F,G,p,o,q⟩;have ar:¬(((a:X):Z)-1-(a:Z)>=0):=aa;simp only[aG ar,bQ];rw[vl,nC] at q;exact bA.2 (ad i h aB E G p o q)
def LW {A B q r:Z} (f:0<B) (b:A=B*q+r) (c:0<=r) (d:r<B):A/B=q/\A %B=r:=by have e:=m3 A B;have a:A/B=q:=(by rw[b,Int.mul_add_ediv_left _ _ aa,rO c d];omega);refine⟨a,?_⟩;rw[a] at e;omega
def OX (l:a1 d) (p:a1 f) (V:fK d) (F:fK f) (ex:d.length<=1000000) (fl:f.length<=1000000) (N:f≠[]):D9 (d,f,())=Y (fb (al d/al f).toNat,fb (al d %al f).toNat,()):=by
 unfold D9;refine bR.1 ?_;have K:=gB l;have I:0<al f:=(by have:=gB p;have:al f≠0:=λam=>N (aqr p F am);omega);refine ah.bs (IL l p V F aa aa) ?_;dsimp only;rw[de];refine ah.ite (λt=>?_) λt=>?_
 ·have C:al d<al f:=by
   unfold gh at t;split at t
   ·assumption
   split at t<;>omega
  refine ah.bs (Ap aa) (bA.2 ?_);rw[rO K C,u5 K C];show(([]:amv),d,())=(fb 0,fb (al d).toNat,());rw[Pj,<-aoM l V]
 have ek:al f<=al d:=by
  unfold gh at t;split at t
  ·omega
  omega
 rw[gV,de];refine ah.ite (λh=>?_) λh=>?_
 ·have h:f.length=1:=(by simp only[a8] at h;omega);obtain⟨o,rfl⟩:=List.length_eq_one_iff.1 h;have co:=(ant.1 p).1;have u:al [o]=o:=(by simp[al]);rw[u] at I|-;have d2:0<=al d %o:=aqy _ aa;have em:al d %o<o:=aqw _ I;refine ah.bs (y:=o) rfl (ah.bs (ag7 l aa aa co.2) ?_);dsimp only;refine ah.bs (px (ant.2 ⟨⟨d2,aa⟩,ana⟩) ac) (bA.2 ?_);show(_,jL [al d %o],())=_;rw[jL];simp[al]
 obtain⟨b,cv⟩:∃b,f.length=b+2:=(by have:=C2.2 N;simp only[a8] at h;exact⟨f.length-2,aa⟩);have ar:aD (au f-1)=((b+1:X):Z):=(by simp only[a8];rw[cG aa aa];omega);obtain⟨a,T,d4,U,cS⟩:=abf p F cv;have el:b+2<=d.length:=by
  rcases c6 d.length (b+2) with j|j
  ·have:=s2 l p F aa;omega
  exact j
 have D:=lv a;refine ah.bs (y:=f[b+1]) (by rw[ar];exact fc aa) (ah.bs d4 ?_);refine ah.bs (MG p aa aa) ?_;obtain⟨s,u⟩:∃s,s=fb (al f*2^a).toNat:=⟨_,bq⟩;have bl:0<=al f*2^a:=apl aa aa;have M:al s=al f*2^a:=(by rw[u,Bl bl]);have KL:a1 s:=(by rw[u];exact q2 _);have d5:fK s:=(by rw[u];exact yn _);obtain⟨ds,c1⟩:=XK M KL d5 U cS;rw[<-u];have an:aT (au d)=((d.length+1:X):Z):=bk aa;refine ah.bs (y:=d.length+1) (by rw[an];exact jq aa) ?_;refine ah.bs (MG l aa aa) ?_;have a4:0<=al d*2^a:=apl aa aa;have d9:al d*2^a<bb (d.length+1):=(by have w:al d*2^a<bb d.length*2^a:=aqu (it l) D;have x:bb d.length*2^a<=bb d.length*4294967296:=arI (by have:=y6 T;omega) (anj (hy _));rw[iV,aon 4294967296];omega);obtain⟨m,E⟩:∃m,m=fb (al d*2^a).toNat:=⟨_,bq⟩;have R:m.length<=d.length+1:=(by rw[E];exact tW aa);have d1:a1 m:=(by rw[E];exact q2 _);have d0:al m=al d*2^a:=(by rw[E,Bl a4]);rw[<-E];obtain⟨i,O⟩:∃i,i=ka (bM (d.length+1) (0:Z)) m 0 (bM (d.length+1) (0:Z)).length:=⟨_,bq⟩;have J:i=m++bM (d.length+1-m.length) 0:=(by rw[O];unfold ka;rw[aoP,List.nil_append,List.length_replicate,aob,amz R,Nat.zero_add,aoL R,arJ]);have dg:i.length=d.length+1:=(by rw[J];simp;omega);have S:a1 i:=(by rw[J];exact aqx.2 ⟨d1,ans _⟩);have Q:al i=al d*2^a:=(by rw[J,qn,s3,d0];omega);dsimp only;rw[<-O];obtain⟨g,cs⟩:∃g,d.length+1=g+(b+2):=⟨d.length+1-(b+2),aa⟩;have ap:aD (au i-au s)=((g:X):Z):=(by simp only[a8];rw[cG aa aa];omega);refine ah.bs (y:=g) (by rw[ap];exact jq aa) ?_;have C:al (i.drop g)<al f*2^a:=(by have h:=rI i g aa;have w:=gB (S.take g);rw[Q] at h;have x:al d*2^a<bb d.length*2^a:=aqu (it l) D;have H:bb d.length=bb g*bb (b+1):=(by rw[<-xd];congr 1;omega);have v:bb g*al (i.drop g)<bb g*(bb (b+1)*2^a):=(by rw[<-Int.mul_assoc,<-H];omega);have z:=arK v (anj (hy g));have d8:bb (b+1)*2^a<=bb (b+1)*2147483648:=arI (y6 T) (anj (hy _));omega);refine ah.aO (P:=λad=>∃c e,ad=(c,e,())/\c.length=g/\a1 c/\e.length=d.length+1/\a1 e/\al e+al f*2^a*al c=al d*2^a/\al e<al f*2^a) (XJ KL M U ds c1 aa S Q dg cs aa C λc e h w x H v z=>⟨c,e,bq,h,w,x,H,v,z⟩) ?_;rintro _ ⟨c,e,rfl,aB,d3,fn,G,v,z⟩;have av:au s=((b+2:X):Z):=(by simp only[a8];omega);dsimp only;rw[av];refine ah.bs (G8 aa) ?_;have c2:=gB G;have dl:al (e.take (b+2))=al e:=by
  have h:=rI e (b+2) aa;have w:=gB (G.drop (b+2));have x:=gB (G.take (b+2));rcases lB 0 (al (e.drop (b+2))) with j|j
  ·exfalso;have:=mw (aa:1<=al (e.drop (b+2))) (gT (hy (b+2)));omega
  rw[(aa:al (e.drop (b+2))=0)] at h;omega
 have L:al e=2^a*(al d-al f*al c):=(by have d6:al f*2^a*al c=2^a*(al f*al c):=ae;have d7:2^a*(al d-al f*al c)=2^a*al d-2^a*(al f*al c):=Int.mul_sub ..;rw[mv (al d)] at v;omega);have bx:0<=al d-al f*al c:=by
  rcases lB (al d-al f*al c) 0 with j|j
  ·have:=Int.mul_neg_of_pos_of_neg D j;omega
  exact j
 have ce:al d-al f*al c<al f:=(by have:2^a*(al d-al f*al c)<2^a*al f:=(by rw[<-L,aon (2^a)];exact z);exact arK this (anj D));have ci:al e/2^a=al d-al f*al c:=(by rw[L];exact Int.mul_ediv_cancel_left _ aa);obtain⟨a3,f2⟩:=LW (A:=al d) (B:=al f) (q:=al c) (r:=al d-al f*al c) I aa bx ce;refine ah.bs (px ((G.take _).drop _) (by simp;omega)) ?_;have a0:jL (apr 0 (e.take (b+2)))=fb (al e).toNat:=(by rw[List.drop_zero,jL,dl]);dsimp only;rw[a0];refine ah.bs (OY (q2 _) (yn _) ?_ aa) ?_
 ·have:=tW (n:=(al e).toNat) (k:=b+2) aa;omega
 dsimp only;refine ah.bs (px d3 aa) (bA.2 ?_);show(jL c,_,())=_;rw[Bl c2,ci,a3,f2,jL]
def Ph (a:X):fb (a:Z).toNat=fb a:=by rw[fV]
theorem Bm (b:aP c<=32*a):(fb c).length<=a:=by refine tW ?_;grind [rM,y5,fY]
theorem Dz:gh b e>=0↔e<=b:=by grind [gh]
def CT (a:qo):Prop:=a1 a.2.1/\fK a.2.1/\a.2.1.length<=100000
def h9 {z:Z} (a:aP z.natAbs<=3000000):CT (aK z):=⟨mL z,Fu z,Bm aa⟩
theorem oH (a:a1 d) (b:fK d) (e:d.length<=1000000):i6 (d,())=Y (d,()):=by have c:=aoM a b;rw[px a aa];show Y (fb (al d).toNat,())=_;grind
theorem qV {neg:bD} {x:Z} (a:0<=x) (b:(fb x.toNat).length<=100000000):mJ (neg,fb x.toNat,())=Y (aK (if neg then-x else x),()):=by grind [Bl,xJ,q2,hK]
theorem X3 {x y:X} {k:X} (a:(fb x).length<=k) (b:(fb y).length<=k):(fb (x+y)).length<=k+1:=by refine tW ?_;have c:=Pg x;have d:=Pg y;have e:=qe a;have f:=qe b;grind [iV,hy]
def Hr {l:amv} (d:a1 l) (c:l.length<=a) (g:b<=al l):(fb b.toNat).length<=a:=by refine tW ?_;have e:=it d;have f:=qe c;have:=hy a;omega
theorem Nu {a b:qo} (t:CT a) (u:CT b):p0 (a,b,())=Y (aK (hK a+hK b),()):=by
 obtain⟨j,a,_⟩:=a;obtain⟨k,b,_⟩:=b;obtain⟨c,g,r⟩:=t;obtain⟨d,h,s⟩:=u;dsimp only at c g r d h s;have x:=gB c;have y:=gB d;have aB:=it c;have z:=it d;have A:=qe (m:=a.length) (n:=100000) r;have bj:=qe (m:=b.length) (n:=100000) s;have B:=hy 100000;have w:∀e:Z,e<=al a+al b->(fb e.toNat).length<=100000001:=λe v=>(by have:(fb e.toNat).length<=100001:=(by refine tW ?_;grind [iV]);omega);have q:∀e:Z,e<=al a+al b->(fb e.toNat).length<=100000000:=λe v=>(by have:(fb e.toNat).length<=100001:=(by refine tW ?_;grind [iV]);omega);unfold p0;dsimp only;refine aq (oH c g aa) (aq (oH d h aa) ?_);dsimp only;cases i:(j==k) with
 |true=>
  have i:j=k:=ae;subst i;refine aq (SB c d aa aa) (aq (qV aa (q _ aa)) ?_);grind [hK]
 |false=>
  have i:j=!k:=(by cases j<;>cases k<;>simp at i|-);refine aq (IL c d g h aa aa) ?_;dsimp only;rw[de];split
  ·rename_i l;have p:al b<=al a:=Dz.1 l;have o:b.length<=a.length:=by
    rcases c6 a.length b.length with f|f
    ·have:=s2 c d h f;omega
    omega
   refine aq (QZ c d aa o p) (aq (qV aa (q _ aa)) ?_);grind [hK]
  rename_i l;have p:al a<al b:=Int.not_le.1 (mt Dz.2 l);have o:a.length<=b.length:=by
   rcases c6 b.length a.length with f|f
   ·have:=s2 d c g f;omega
   omega
  refine aq (QZ d c aa o (gT p)) (aq (qV aa (q _ aa)) ?_);grind [hK]
def xF {x y:Z} (a:aP x.natAbs<=3000000) (b:aP y.natAbs<=3000000):p0 (aK x,aK y,())=Y (aK (x+y),()):=by rw[Nu (h9 a) (h9 b),oI,oI]
theorem ahz {x y:Z} (b:aP x.natAbs<=3000000) (c:aP y.natAbs<=3000000):D8 (aK x,aK y,())=Y (aK (x-y),()):=by unfold D8;have a:CT ((!(aK y).1,(aK y).2):qo):=⟨mL y,Fu y,(h9 c).2.2⟩;refine aq (Nu (h9 b) a) ?_;rw[oI];have d:hK ((!(aK y).1,(aK y).2):qo)=-y:=(by have:=Hq (aK y).1 (aK y).2.1;have e:=oI y;grind);grind
theorem Rf (f:aP b.natAbs<=3000000) (g:aP e.natAbs<=3000000):AG (aK b,aK e,())=Y (aK (b*e),()):=by
 unfold AG;dsimp only;obtain⟨a,h,l⟩:=h9 f;obtain⟨c,i,m⟩:=h9 g;refine aq (oH a h aa) (aq (oH c i aa) ?_);dsimp only;refine aq (ahM a c aa aa) ?_;rw[i7,i7,<-anP,Ph];dsimp only;have n:(fb (b.natAbs*e.natAbs)).length<=100000000:=(by have:(fb (b.natAbs*e.natAbs)).length<=200000:=(by refine Bm ?_;have:=vy f g;omega);omega);have d:=qV (neg:=!((aK b).1==(aK e).1)) (x:=((b.natAbs*e.natAbs:X):Z)) aa ae;rw[Ph] at d;refine aq d ?_;dsimp only;congr 3;show(if(!(bw (b<0)==bw (e<0)))=bt then _ else _)=_;rw[anP];rcases anG b 0 with j|j<;>rcases anG e 0 with k|k
 ·grind
 ·grind
 ·grind
 grind
theorem IG {x y:Z} (i:aP x.natAbs<=900000) (l:aP y.natAbs<=900000):xX (aK x,aK y,())=Y (gh x y,()):=by
 obtain⟨c,d,m⟩:=h9 (z:=x) aa;obtain⟨e,f,n⟩:=h9 (z:=y) aa;unfold xX;refine aq (sU (jA aa)) (aq (sU (jA aa)) ?_);dsimp only;rw[de,de];have h:∀a:Z,a<0/\gE a=-1\/a=0/\gE a=0\/0<a/\gE a=1:=λa=>(by grind [gE]);split
 ·rename_i o;unfold gh;grind
 split
 ·rename_i j k;unfold gh;grind
 rename_i j k;have p:gE x=gE y:=aa;refine aq (oH c d aa) (aq (oH e f aa) ?_);dsimp only;refine aq (IL c e d f aa aa) ?_;rw[i7,i7];dsimp only;have i:=h x;have l:=h y;have:gE x*gh (x.natAbs:Z) (y.natAbs:Z)=gh x y:=by
  rcases i with⟨g,b⟩|⟨g,b⟩|⟨g,b⟩<;>rw[b]
  ·unfold gh;omega
  ·rw[n4];unfold gh;omega
  grind
 grind [cG,gh]
def aaX (b:Z) (a:X):(b.natAbs:Z)*2^a=((b.natAbs*2^a:X):Z):=by simp
theorem It:aP (a*2^c)<=aP a+c:=by
 rcases rX a with b|b
 ·grind
 simp_all [r9,bf]
theorem ag5 (i:aP b.natAbs<=1900000) (h:a<=1048576):qZ (aK b,(a:Z),())=Y (aK (b*2^a),0,()):=by obtain⟨c,d,f⟩:=h9 (z:=b) aa;unfold qZ;dsimp only;rw[aG (aa:¬((a:Z)< -1048576)),aG (aa:¬((a:Z)>1048576))];refine aq bq (aq (oH c d aa) ?_);dsimp only;rw[aJ (aa:(a:Z)>=0)];refine aq (MG c aa aa) ?_;rw[i7,aaX];have g:(fb (b.natAbs*2^a)).length<=100000:=Bm (by grind [It]);have e:=qV (neg:=(aK b).1) (x:=((b.natAbs*2^a:X):Z)) aa ae;refine aq e ?_;dsimp only;congr 3;show(if bw (b<0)=bt then _ else _)=_;grind
theorem Rn {m:Z} (a:0<b) (d:0<=m):-m/b=if m %b=0 then-(m/b) else-(m/b+1):=by
 have e:=m3 m b;have f:=pD m (aa:b≠0);have g:=rP m a;split
 ·rename_i c;refine(LW (A:=-m) (B:=b) (q:=-(m/b)) (r:=0) a ?_ (anE _) a).1;grind
 rename_i c;refine(LW (A:=-m) (B:=b) (q:=-(m/b+1)) (r:=b-m %b) a ?_ aa aa).1;grind
theorem ag4 (u:aP b.natAbs<=1900000) (q:a<=1048576) (r:0<a):qZ (aK b,-(a:Z),())=Y (aK (b/2^a),0,()):=by
 obtain⟨e,f,g⟩:=h9 (z:=b) aa;have i:=lv a;unfold qZ;dsimp only;rw[aG (aa:¬(-(a:Z)< -1048576)),aG (aa:¬(-(a:Z)>1048576))];refine aq bq (aq (oH e f aa) ?_);dsimp only;rw[aG (aa:¬(-(a:Z)>=0))];have ar:aD (0- -(a:Z))=(a:Z):=(by grind [cG]);rw[ar];refine aq (OY e f aa aa) ?_;rw[i7];have s:0<=(b.natAbs:Z)/2^a:=an0 aa aa;have j:(b.natAbs:Z)/2^a<=b.natAbs:=aoQ _ aa;have h:∀d:Z,d<=b.natAbs->(fb d.toNat).length<=100000:=λd t=>Hr (l:=(aK b).2.1) e g (by grind [i7]);have p:(fb ((b.natAbs:Z)/2^a+1).toNat).length<=100001:=(by have n:=X3 (x:=((b.natAbs:Z)/2^a).toNat) (y:=1) (k:=100000) (h _ j) ab;grind);dsimp only;refine aq (y:=(fb (if b<0/\(b.natAbs:Z) %2^a≠0 then(b.natAbs:Z)/2^a+1 else(b.natAbs:Z)/2^a).toNat,(bu,([],())),())) ?_ ?_
 ·refine aq (y:=(bw (b<0/\(b.natAbs:Z) %2^a≠0),(bu,([],())),())) ?_ ?_
  ·show(bif bw (b<0)==bt then _ else _)=_;by_cases c:b<0
   ·simp[c]
   grind
  dsimp only;by_cases c:b<0/\(b.natAbs:Z) %2^a≠0
  ·rw[aJ c,ay c];refine aq (SB (q2 _) (ant.2 ⟨ab,ana⟩) ae ac) ?_;grind [Bl,al]
  grind
 dsimp only;refine aq (qV ?_ ?_) ?_
 ·omega
 ·grind
 dsimp only;congr 3;show(if bw (b<0)=bt then _ else _)=_;by_cases c:b<0
 ·rw[ay (aJ c)];have o:=Rn (m:=b.natAbs) i aa;grind
 grind
theorem XM {x y:Z} (u:aP x.natAbs<=1900000) (w:aP y.natAbs<=1900000) (v:0<=x) (k:y≠0):vN (aK x,aK y,())=Y (aK (x/y),aK (x %y),0,()):=by obtain⟨b,d,g⟩:=h9 (z:=x) aa;obtain⟨c,e,h⟩:=h9 (z:=y) aa;unfold vN;dsimp only;refine aq (oH c e aa) ?_;dsimp only;have f:(aK y).2.1≠[]:=λi=>k (wb.1 i);rw[sy,aG f];refine aq (oH b d aa) ?_;dsimp only;refine aq (OX b c d e aa aa f) ?_;rw[i7,i7];dsimp only;have m:(aK x).1=bu:=aG aa;have n:0<=(x.natAbs:Z)/(y.natAbs:Z):=an0 aa aa;have s:(x.natAbs:Z)/(y.natAbs:Z)<=x.natAbs:=aoQ _ aa;have o:0<=(x.natAbs:Z) %(y.natAbs:Z):=aqy _ aa;have t:(x.natAbs:Z) %(y.natAbs:Z)<(y.natAbs:Z):=aqw _ aa;have q:∀a:Z,a<=x.natAbs->(fb a.toNat).length<=100000:=λa p=>Hr (l:=(aK x).2.1) b g (by grind [i7]);have r:∀a:Z,a<=y.natAbs->(fb a.toNat).length<=100000:=λa p=>Hr (l:=(aK y).2.1) c h (by grind [i7]);rw[m];refine aq bq ?_;dsimp only;refine aq (qV n ae) (aq (qV o ae) ?_);dsimp only;have ar:(x.natAbs:Z)=x:=aa;rw[ar];have j:x %(y.natAbs:Z)=x %y:=(by grind [Int.emod_neg,anG]);rw[j];congr 3;show(if(!(bu==bw (y<0)))=bt then _ else _)=_;grind [aG,aJ,Int.ediv_neg,anG]
theorem yt {n:Z} (c:-9223372036854775808<=n) (d:n<=9223372036854775807):sf (n,())=Y (aK n,()):=by
 unfold sf;dsimp only;obtain⟨a,e,b,f⟩:∃a:Z,a=n.natAbs/\0<=a/\a<=9223372036854775808:=⟨_,bq,aa,aa⟩;refine aq (y:=(a,(bu,([],())),())) ?_ ?_
 ·rw[de];grind [uV]
 dsimp only;rw[oF,bT,sA b aa,mr (x:=a/4294967296) aa aa];refine aq (xJ (ant.2 ⟨⟨aa,aa⟩,ant.2 ⟨⟨aa,aa⟩,ana⟩⟩) ac) ?_;grind [al,hK]
theorem ZG (c:a1 d) (s:d.length<=2) {e:c7->Prop} (q:e (al d,())):ah (loop (σ:=pU) (ρ:=c7) (λ(j,b,_)=>
 bif bw (b<au d) then
 (az d b).bind λo=>
 (js bG (aS o) (aD (32*b))).bind λp=>
 Y (.inl (hu bG j p,aT b,())) else
 Y (.inr (j,()))) (0,0,())) e:=by
 refine ah.steps d.length (λa n=>n=(al (d.take a),(a:Z),())) rfl ?_ ?_
 ·rintro a _ g rfl;have i:=c.get g;simp only[aJ (ae:(a:Z)<au d),bI,fc g,aM];have k:=gB (c.take a);have f:=it (c.take a);rw[hz,iZ aa,rM] at f;have ar:aD (32*(a:Z))=((32*a:X):Z):=(by grind [cG]);have l:(2:Z)^(32*a)<=4294967296:=by
   rcases(aa:a=0\/a=1) with rfl|rfl<;>decide
  have m:=lv (32*a);have r:d[a]*2^(32*a)<4294967296*4294967296:=(by have:=mw l i.1;omega);have h:0<=d[a]*2^(32*a):=nA i.1 (gT m);rw[ar,gm (x:=d[a]) aa aa,qk aa aa,aM,fV,u5 h aa,nS (32*a) k f h aa aa (apq _ _),bk aa];grind [j3,rM,aon,bA]
 rintro _ rfl;simp_all [bA,gJ,bf,aG,a8,bQ,au]
theorem ZH {z:Z} (h:0<=z) (c:z<9223372036854775808):D6 (aK z,())=Y (z,bt,()):=by have i:aP z.natAbs<=64:=fY.2 aa;obtain⟨a,b,g⟩:=h9 (z:=z) aa;have d:(aK z).2.1.length<=2:=Bm aa;unfold D6;dsimp only;refine bR.1 ?_;refine ah.bs (oH a b aa) ?_;dsimp only;rw[aG (ae:¬(au (aK z).2.1>2)),bQ];refine ah.aO (P:=λf=>f=(z,())) (ZG a d (by grind [i7])) ?_;rintro _ rfl;have e:(aK z).1=bu:=aG aa;dsimp only;rw[e];refine ah.bs (y:=.inr (z,bt,())) ?_ (bA.2 bq);refine aq bq ?_;dsimp only[bQ];rw[aJ (show z<9223372036854775808 from c)];refine aq bq ?_;dsimp only[bI];grind [cG]
theorem Tw (p:a1 d) (q:d.length<=100000000):pb (d,())=Y (jL d,()):=by
 unfold pb;refine bR.1 ?_;refine ah.aO (P:=λh=>∃a:X,h.1=(a:Z)/\a<=d.length/\(∀b,a<=b->(k:b<d.length)->d[b]=0)/\fK (d.take a)) ?_ ?_
 ·refine am3 (λe=>∃a:X,e.1=(a:Z)/\a<=d.length/\(∀b,a<=b->(k:b<d.length)->d[b]=0)) (λe=>e.1.toNat) ⟨d.length,bq,bf _,λb f g=>by omega⟩ ?_;rintro⟨_,_⟩ ⟨a,rfl,f,g⟩;rcases a with _|a
  ·refine bA.2 ⟨0,bq,eU _,g,λm l=>by grind⟩
  have ar:aD (((a+1:X):Z)-1)=(a:Z):=(by grind [cG]);have j:bw (((a+1:X):Z)>0)=bt:=aJ aa;simp only[ar,j,am2,bI,fc (show a<d.length from f),aM];by_cases i:d[a]=0
  ·rw[gV,aJ i];grind [cw,bA]
  rw[gV,aG i];refine bA.2 ⟨a+1,bq,f,g,λm l=>?_⟩;grind
 rintro⟨_,_⟩ ⟨a,rfl,f,g,n⟩;dsimp only;refine ah.aO (P:=λh=>h=(d.take a,())) ?_ ?_
 ·refine ah.steps a (λc e=>e=((c:Z),d.take c,())) rfl ?_ ?_
  ·rintro c _ o rfl;simp only[aJ (aa:(c:Z)<(a:Z)),bI,fc (aa:c<d.length),aM];grind [amG,bZ,bA,fe,bk]
  rintro _ rfl;simp_all [bA,aG,bQ]
 grind [bA,Uq]
theorem Ck (c:a1 d) (e:d.length<=100000000):nL (i,d,())=Y (aK (hK (i,d,())),()):=by
 unfold nL;refine aq (Tw c e) ?_;have a:=Pd (neg:=i) (Un d) (Uo d);have b:hK (i,jL d,())=hK (i,d,()):=(by grind [Up,hK]);rw[<-b,<-a];dsimp only;cases i
 ·simp
 simp_all [am2,bI,aoE,amD,a8,C2]
theorem zh (a:a1 d) (c:d.length<=100000000) (e:al d=b):nL (i,d,())=Y (aK (if i then-b else b),()):=by grind [Ck,hK]
theorem uP {l:amv} (a:a1 l) (b:fK l) (d:l.length<=1000000):pb (l,())=Y (l,()):=by have c:=aoM a b;rw[Tw a aa];show Y (fb (al l).toNat,())=_;grind
def Tk {a:qo} (b:a1 a.2.1) (c:a.2.1.length<=100000000):tP (a,())=Y (aK (hK a),()):=by unfold tP;exact aq (Ck b c) rfl
def GW (a:aP b.natAbs<=3000000):tP (aK b,())=Y (aK b,()):=by rw[Tk (mL b) (by have:=(h9 a).2.2;omega),oI]
theorem Tj (a:aP b.natAbs<=3000000):A3 (aK b,())=Y (aK (-b),()):=by unfold A3;refine aq (Ck (mL b) (by have:=(h9 a).2.2;omega)) ?_;grind [oI,Hq]
theorem S1 (a:aP b.natAbs<=3000000):A0 (aK b,())=Y (aK b.natAbs,()):=by unfold A0;refine aq (Ck (mL b) (by have:=(h9 a).2.2;omega)) ?_;grind [oI,UC,mL]
theorem qh {z:Z} (a:aP z.natAbs<=3000000):si (aK z,())=Y (gE z,()):=by
 unfold si;refine aq (GW a) ?_;simp only[sy,de,wb];unfold gE;split
 ·rfl
 show(bif bw (z<0) then _ else _)=_;grind
theorem L0 {z:Z} (d:aP z.natAbs<=3000000):A1 (aK z,())=Y ((aP z.natAbs:Z),()):=by obtain⟨a,b,e⟩:=h9 d;have c:=Qw a b aa;rw[i7] at c;unfold AK at c;unfold A1;refine aq (uP a b aa) ?_;grind
theorem Tx (v:aP b.natAbs<=900000) (s:b≠0):sj (aK b,())=Y ((cV b.natAbs:Z),()):=by
 obtain⟨e,i,r⟩:=h9 (z:=b) aa;unfold sj;refine aq (uP e i aa) ?_;have u:=i7 b;dsimp only;generalize(aK b).2.1=a at*;have m:b.natAbs=(al a).toNat:=aa;rw[m];refine bR.1 (ah.aO (P:=λo=>match o with|.inl _=>b7|.inr p=>p=((cV (al a).toNat:Z),())) ?_ ?_)
 ·refine ah.steps a.length (λc q=>q=((c:Z),())/\al (a.take c)=0) ⟨bq,bq⟩ ?_ ?_
  ·rintro c _ f ⟨rfl,j⟩;have h:=e.get f;simp only[aJ (ae:(c:Z)<au a),bI,fc f,aM,fZ];by_cases d:a[c]=0
   ·simp only[aJ d,iI,bQ];grind [j3,bA,bk]
   simp only[aG d,oK,bI];have k:=Ux (x:=0) j f e d;rw[k];obtain⟨g,l⟩:=gd h.1;rw[l] at h d|-;have t:cV g<32:=jS (sZ aa) (fY.2 aa);refine ah.of_eq (aq (Uw (n:=g) aa aa) rfl) ?_;grind [cG]
  grind
 grind [bA]
theorem SY {n:X} (c:n<=1000000000):∃b a:X,n=32*b+a/\a<32/\kN bN (n:Z) 32=Y (b:Z)/\jH (n:Z) 32=Y (a:Z):=by
 refine⟨n/32,n %32,aa,aa,?_,?_⟩
 ·unfold kN;rw[ay ab,HE aa,cA aa aa];simp
 simp_all [ay,HF,jH]
theorem agH {n:X} (t:a1 d) (H:d.length<=10000000) (D:n<=100000000):ah (E1 (d,(n:Z),())) (λl=>∃a,l=(a,())/\a1 a/\al a=al d*2^n/\a.length=n/32+d.length+1):=by
 unfold E1;obtain⟨g,b,G,E,u,v⟩:=SY (n:=n) aa;have j:=lv b;have z:=wL (p:=b) aa;have y:(2:Z)^b<=2147483648:=y6 aa;dsimp only;refine ah.bs u (ah.bs (jq aa) ?_);refine ah.aO (P:=λl=>∃c a,l=(c,a,())/\a.length=g+d.length/\a1 a/\0<=c/\c<2^b/\al a+bb (g+d.length)*c=bb g*(2^b*al d)) ?_ ?_
 ·refine ah.steps d.length (λe w=>∃c a,w=(c,(e:Z),a,())/\a.length=g+e/\a1 a/\0<=c/\c<2^b/\al a+bb (g+e)*c=bb g*(2^b*al (d.take e))) ⟨0,bM g 0,bq,ac,ans _,aa,j,by simp[al,s3]⟩ ?_ ?_
  ·rintro e _ m ⟨c,a,rfl,aB,h,i,bj,k⟩;have o:=t.get m;simp only[aJ (ae:(e:Z)<au d),bI,fc m,aM,v];have B:d[e]*2^b<4294967296*2^b:=xj o.2 j;have A:d[e]*2^b<=4294967295*2^b:=oQ aa aa;have C:0<=d[e]*2^b:=nA o.1 (gT j);obtain⟨f,F,I,J,K⟩:∃f,f=c+d[e]*2^b/\0<=f/\f<18446744073709551616/\f<4294967296*2^b:=⟨_,bq,aa,aa,aa⟩;have q:js bG (aS d[e]) (b:Z)=Y (d[e]*2^b):=by
    rw[gm (x:=d[e]) aa aa,qk aa aa,fV];congr 1;omega
   have r:hu bG c (d[e]*2^b)=f:=(by grind [nS,apq]);have s:f/4294967296<2^b:=u4 ab aa;rw[q,aM,r,fe ae,oF,rJ];refine bA.2 ⟨f/4294967296,a++[f %4294967296],by rw[bk aa],ae,h.snoc aa aa,aa,s,?_⟩;grind [xd,aom,rH,iV,j3]
  rintro _ ⟨c,a,rfl,aB,h,i,bj,k⟩;simp only[aG (ae:¬((d.length:Z)<au d)),bQ];rw[gJ (bf _)] at k;grind [bA]
 rintro _ ⟨c,a,rfl,aB,h,i,bj,k⟩;dsimp only;rw[mr i aa,fe ae];refine bA.2 ⟨a++[c],bq,h.snoc i aa,?_,ae⟩;grind [rH,rM,arL]
theorem af5 (g:a1 d) (h:a1 f) (o:fK d) (p:fK f) (t:d.length<=10000000) (u:f.length<=10000000):E0 (d,f,())=Y (gh (al d) (al f),()):=by
 unfold E0;refine bR.1 ?_;simp only[fZ,a8];by_cases s:d.length=f.length
 ·rw[aJ (aa:(d.length:Z)=f.length)];simp only[iI,bQ];refine ah.aO (P:=λl=>match l with|.inl _=>al d=al f|.inr m=>m=(gh (al d) (al f),())) ?_ ?_
  ·refine ah.steps d.length (λb n=>n=(((d.length:X):Z)-1-b,())/\al (d.drop (d.length-b))=al (f.drop (d.length-b))) ⟨?_,?_⟩ ?_ ?_
   ·grind [cG]
   ·rw[qu aa,qu aa]
   ·rintro b _ q ⟨rfl,e⟩;obtain⟨a,r⟩:∃a,d.length=a+1+b:=⟨d.length-1-b,aa⟩;have ar:((d.length:X):Z)-1-(b:Z)=(a:Z):=aa;have i:a<d.length:=aa;have j:a<f.length:=aa;rw[(aa:d.length-b=a+1)] at e;simp only[ar,aJ (aa:(a:Z)>=0),bI,fc i,fc j,aM];by_cases k:d[a]=f[a]
    ·simp only[aJ k,iI,bQ];grind [nZ,cG,bA]
    simp only[aG k,oK,bI];rw[de];refine ah.ite (λc=>?_) λc=>?_
    ·refine bA.2 ?_;show((-1:Z),())=_;unfold gh;rw[ay (Hs g h i j e c)]
    refine bA.2 ?_;show((1:Z),())=_;have:=Hs h g j i e.symm aa;grind [gh]
   rintro _ ⟨rfl,e⟩;have ar:¬(((d.length:X):Z)-1-(d.length:Z)>=0):=aa;simp_all [bA,aG,bQ]
  grind [bA,gh,al]
 rw[aG (aa:¬(d.length:Z)=f.length)];simp only[oK,bI];rw[de];unfold gh;refine ah.ite (λc=>bA.2 ?_) λc=>bA.2 ?_
 ·rw[ay (s2 g h p aa)]
 have:=s2 h g o aa;grind
theorem aad (j:a1 d) (v:k<32) (u:c+a<d.length) (t:b=al (d.drop c)):b/2^k/bb a %4294967296=(d[c+a]+4294967296*d.getD (c+a+1) 0)/2^k %4294967296:=by
 have q:=lv k;have s:=wL (p:=k) aa;have r:b/bb a=(d[c+a]+4294967296*d.getD (c+a+1) 0)+4294967296*(4294967296*al (d.drop (c+a+2))):=by
  have h:d.drop c=(d.drop c).take a++d.drop (c+a):=(by grind [List.drop_drop,List.take_append_drop]);have g:b=al ((d.drop c).take a)+bb a*al (d.drop (c+a)):=(by grind [qn,am5,aqa,aoL]);have m:=gB ((j.drop c).take a);have i:=it ((j.drop c).take a);rw[hz,oT,iZ aa] at i;have n:al (d.drop (c+a))=d[c+a]+4294967296*al (d.drop (c+a+1)):=nZ aa;have o:al (d.drop (c+a+1))=d.getD (c+a+1) 0+4294967296*al (d.drop (c+a+2)):=by
   rcases c6 (c+a+1) d.length with f|f
   ·grind [nZ,k1]
   rw[q7 f,qu f,qu aa];rfl
  rw[g,xi _ _ aa,rO m i,n,o];grind
 have h:b/2^k/bb a=b/bb a/2^k:=(by rw[u2 (gT q),u2 (gT (hy a)),mv]);rw[h,r];generalize d[c+a]+4294967296*d.getD (c+a+1) 0=l;have g:∀e:Z,l+4294967296*(4294967296*e)=l+2^k*(4294967296*(2^(32-k)*e)):=λe=>ae;rw[g,xi _ _ aa,zH]
theorem aam (e:a1 d) (l:c<32) (j:a<d.length):(bw (al d %(bb a*2^c)≠0))=(bw (al (d.take a)≠0)||bw (d[a] %2^c≠0)):=by have h:=lv c;have k:=wL (p:=c) aa;have i:=gB (e.take a);have f:=it (e.take a);rw[hz,iZ aa] at f;have g:=QL (x:=al (d.take a)) (b:=bb a) (y:=al (d.drop a)) (P:=2^c) (P':=0) (hy a) ⟨i,f⟩ h;rw[<-rI d a aa] at g;simp_all [nZ,ju,zH,al]
theorem Tu {n:X} (f:a1 d) (bl:d.length<=10000000) (a0:n<=1000000000):ah (A4 (d,(n:Z),())) (λh=>∃e,h=(e,bw (al d %2^n≠0),())/\a1 e/\al e=al d/2^n/\e.length<=d.length):=by
 unfold A4;obtain⟨a,c,R,C,o,O⟩:=SY (n:=n) aa;have y:=lv c;have am:=wL (p:=c) aa;have V:(2:Z)^c<=2147483648:=y6 aa;have K:(2:Z)^n=bb a*2^c:=(by rw[rM,R,arL]);have E:=gB f;dsimp only;refine ah.aO (P:=λh=>h=(bw (al (d.take a)≠0),())) ?_ ?_
 ·have a4:∀b,min a d.length=b->bw (al (d.take a)≠0)=bw (al (d.take b)≠0):=λb s=>by
   grind
  refine ah.steps (min a d.length) (λb m=>m=(bw (al (d.take b)≠0),(b:Z),())) (by simp[al]) ?_ ?_
  ·rintro b _ s rfl;have q:=f.get (n:=b) aa;simp only[o,aM,aJ (aa:(b:Z)<(a:Z)),am2,bI,aJ (ae:(b:Z)<au d),fc (aa:b<d.length),bk (aa:b<9223372036854775807),fZ];have v:al (d.take (b+1))=al (d.take b)+bb b*d[b]:=j3 aa;have ad:=gB (f.take b);have w:=hy b;by_cases i:al (d.take b)=0
   ·rw[aG (show¬(al (d.take b)≠0) fromλk=>k i)];refine bA.2 ?_;show((!bw (d[b]=0)),_,())=_;congr 1;rw[v,i];by_cases U:d[b]=0
    ·grind
    have:=tb w (aa:0<d[b]);grind
   rw[aJ (show al (d.take b)≠0 from i)];refine bA.2 ?_;show(bt,_,())=_;congr 1;have:=nA (gT w) q.1;grind
  rintro _ rfl;simp only[o,aM];by_cases i:min a d.length<a
  ·simp only[aJ (aa:((min a d.length:X):Z)<(a:Z)),am2,bI,aG (ae:¬(((min a d.length:X):Z)<au d)),bQ,aM];grind [bA]
  simp only[aG (aa:¬(((min a d.length:X):Z)<(a:Z))),show(bu==bt)=bu from rfl,bQ,aM];grind [bA]
 rintro _ rfl;dsimp only;refine ah.bs O (ah.bs o ?_);rw[K];rcases cw a d.length with k|k
 ·obtain⟨g,z⟩:∃g,g=al (d.drop a):=⟨_,bq⟩;have A:0<=g:=(by rw[z];exact gB (f.drop a));have Q:al d=al (d.take a)+bb a*g:=(by grind [rI]);have N:=gB (f.take a);have B:=it (f.take a);rw[hz,iZ aa] at B;have an:al d/(bb a*2^c)=g/2^c:=by
   rw[<-u2 (gT (hy a)),Q,xi _ _ aa,rO N B,anZ]
  obtain⟨l,av⟩:∃l,d.length=a+l:=⟨d.length-a,aa⟩;have ap:g<bb l:=(by have:=it (f.drop a);grind);have J:=aam f C k;refine ah.aO (P:=λh=>∃e,h=(bw (al d %(bb a*2^c)≠0),e,())/\e.length=l/\a1 e/\al e=g/2^c) ?_ ?_
  ·refine ah.steps l (λb m=>∃e,m=(if b=0 then bw (al (d.take a)≠0) else bw (al d %(bb a*2^c)≠0),((a+b:X):Z),e,())/\e.length=b/\a1 e/\al e+bb b*(g/2^c/bb b)=g/2^c) ⟨[],bq,bq,ana,by simp[al,zz]⟩ ?_ ?_
   ·rintro b _ s ⟨e,rfl,aB,t,F⟩;have q:=f.get (n:=a+b) aa;have S:=f.getD (a+b+1);obtain⟨j,D,T,bx⟩:∃j,j=d[a+b]+4294967296*d.getD (a+b+1) 0/\0<=j/\j<18446744073709551616:=⟨_,bq,aa,aa⟩;have L:g/2^c/bb b %4294967296=j/2^c %4294967296:=(by rw[D];exact aad f C aa z);have a3:0<=j/2^c:=an0 T (anj y);have G:aT ((a+b:X):Z)=((a+b+1:X):Z):=bk aa;dsimp only;rw[a5 (aJ (ae:((a+b:X):Z)<au d))];refine ah.aO (P:=λh=>h=(bw (al d %(bb a*2^c)≠0),e++[j/2^c %4294967296],())) ?_ ?_
    ·refine ah.bs (fc aa) ?_;refine ah.aO (P:=λh=>h=(j,e,())) ?_ ?_
     ·rw[G,de];refine ah.ite (λi=>?_) λi=>?_
      ·have i:a+b+1<d.length:=ae;rw[fc i,aM,gm (x:=d[a+b+1]) ae ae,qk ab ab];rw[k1 i] at D S;have H:d[a+b+1]*2^(32:Z).toNat %18446744073709551616=4294967296*d[a+b+1]:=by
        grind
       rw[aM,H,gm aa aa,nS 32 q.1 q.2 aa aa aa aa];grind [bA]
      grind [a8,q7,gm,bA]
     rintro _ rfl;dsimp only;refine ah.aO (P:=λh=>h=(bw (al d %(bb a*2^c)≠0),e,())) ?_ ?_
     ·refine ah.bs o ?_;by_cases M:b=0
      ·subst M;have r:(((a+0:X):Z)==(a:Z))=bt:=ac;rw[r];simp only[am2,bI];refine ah.bs (fc aa) ?_;rw[TU aa aa,aM,fV,Int.one_mul,u5 aa aa,mr aa aa,NF c (f.get (n:=a+0) aa).1 (f.get (n:=a+0) aa).2 aa,fZ,J];grind [aG,bA,aJ]
      have r:(((a+b:X):Z)==(a:Z))=bu:=ae;rw[r];simp only[show(bu==bt)=bu from rfl,bQ];simp_all [aw,bA]
     rintro _ rfl;dsimp only;rw[Cx aa aa,bT,am8,fe ae,rJ];grind [bA]
    rintro _ rfl;dsimp only;refine bA.2 ⟨e++[j/2^c %4294967296],ae,ae,t.snoc aa aa,?_⟩;rw[rH,aB,<-L,iV,aon 4294967296 (bb b),<-arF (anj (hy b))];grind
   rintro _ ⟨e,rfl,aB,t,F⟩;dsimp only;rw[a2 (aG (ae:¬(((a+l:X):Z)<au d))),b6 aa];refine bA.2 ⟨e,bq,aB,t,?_⟩;have u:0<=g/2^c:=an0 A (anj y);have I:g/2^c<=g:=aoQ _ A;rw[Int.ediv_eq_zero_of_lt u aa] at F;omega
  grind [bA]
 have u:=it f;have I:=qe k;have v:bb a*1<=bb a*2^c:=mw aa (gT (hy a));rw[rO E aa,u5 E aa,gJ k];refine ah.aO (P:=λh=>h=(bw (al d≠0),[],())) ?_ ?_
 ·refine ah.steps 0 (λb m=>m=(bw (al d≠0),(a:Z),[],())) rfl (λb m s=>by omega) ?_;rintro _ rfl;simp_all [bA,a2,aG,au]
 rintro _ rfl;exact bA.2 ⟨[],bq,ana,bq,ac⟩
theorem afY (o:a1 d) (p:a1 f) (y:d.length<=10000000) (z:f.length<=10000000):ah (EZ (d,f,())) (λh=>∃a,h=(a,())/\a1 a/\al a=al d+al f/\a.length<=d.length+f.length+1):=by
 unfold EZ;dsimp only;obtain⟨g,u⟩:∃g,g=max d.length f.length:=⟨_,bq⟩;have q:(if au f>au d then au f else au d)=(g:Z):=ae;rw[q];refine ah.aO (P:=λh=>∃b a,h=(b,a,())/\a.length=g/\a1 a/\0<=b/\b<=1/\al a+bb g*b=al d+al f) ?_ ?_
 ·refine ah.steps g (λc r=>∃b a,r=(b,(c:Z),a,())/\a.length=c/\a1 a/\0<=b/\b<=1/\al a+bb c*b=al (d.take c)+al (f.take c)) ⟨0,[],bq,bq,ana,aa,aa,by simp[al]⟩ ?_ ?_
  ·rintro c _ t ⟨b,a,rfl,l,i,j,m,n⟩;have w:=o.getD c;have x:=p.getD c;obtain⟨e,v,A,B,s⟩:∃e,e=b+d.getD c 0+f.getD c 0/\0<=e/\e<18446744073709551616/\e/4294967296<=1:=⟨_,bq,aa,aa,aa⟩;dsimp only;rw[a5 (aJ (aa:(c:Z)<(g:Z)))];refine ah.aO (P:=λh=>h=(e/4294967296,a++[e %4294967296],())) ?_ ?_
   ·refine ah.aO (P:=λh=>h=(b+d.getD c 0,a,())) ?_ ?_
    ·simp only[de];refine ah.ite (λk=>?_) λk=>?_
     ·grind [gm,bA,k1,fc,a8]
     simp_all [q7,aoN,bA]
    rintro _ rfl;refine ah.aO (P:=λh=>h=(e,a,())) ?_ ?_
    ·simp only[de];refine ah.ite (λk=>?_) λk=>?_
     ·grind [gm,bA,k1,fc,a8]
     simp_all [q7,aoN,bA]
    grind [fe,rJ,oF,bA]
   rintro _ rfl;dsimp only;refine bA.2 ⟨e/4294967296,a++[e %4294967296],by rw[bk aa],ae,i.snoc aa aa,aa,s,?_⟩;rw[rH,l,iV,CK,CK];grind
  rintro _ ⟨b,a,rfl,l,i,j,m,n⟩;dsimp only;rw[a2 (aG (aa:¬((g:Z)<(g:Z))))];grind [bA,amz]
 rintro _ ⟨b,a,rfl,l,i,j,m,n⟩;dsimp only;rw[fe ae,mr j aa];refine bA.2 ⟨a++[b],bq,i.snoc j aa,?_,ae⟩;grind [rH]
theorem ag8 (a:Z):e8 .u64 a 63=Y (a/9223372036854775808):=by have:e8 .u64 a 63=Y (a.fdiv 9223372036854775808):=rfl;grind
theorem Tv (o:a1 d) (p:a1 f) (A:d.length<=10000000) (w:f.length<=d.length) (x:al f<=al d):ah (A5 (d,f,())) (λg=>∃a,g=(a,())/\a1 a/\al a=al d-al f/\a.length=d.length):=by
 unfold A5;dsimp only;refine ah.aO (P:=λg=>∃a b,g=(a,())/\a.length=d.length/\a1 a/\0<=b/\b<=1/\al a-bb d.length*b=al d-al f) ?_ ?_
 ·refine ah.steps d.length (λc q=>∃b a,q=(b,(c:Z),a,())/\a.length=c/\a1 a/\0<=b/\b<=1/\al a-bb c*b=al (d.take c)-al (f.take c)) ⟨0,[],bq,bq,ana,aa,aa,by simp[al]⟩ ?_ ?_
  ·rintro c _ l ⟨b,a,rfl,h,i,j,k,m⟩;have y:=o.get l;have z:=p.getD c;obtain⟨e,v,r,s⟩:∃e,e=d[c]-b-f.getD c 0/\-4294967296<=e/\e<4294967296:=⟨_,bq,aa,aa⟩;dsimp only;rw[a5 (aJ (ae:(c:Z)<au d))];refine ah.aO (P:=λg=>g=(-(e/4294967296),a++[e %4294967296],())) ?_ ?_
   ·refine ah.bs (fc l) ?_;refine ah.aO (P:=λg=>g=(e %18446744073709551616,a,())) ?_ ?_
    ·simp_all [a8,q7,bA,uV,fc,k1,ah.ite,de]
    grind [fe,rJ,ag8,bA]
   rintro _ rfl;dsimp only;refine bA.2 ⟨-(e/4294967296),a++[e %4294967296],by rw[bk aa],ae,i.snoc aa aa,aa,aa,?_⟩;rw[rH,h,iV,j3 l,CK];grind
  rintro _ ⟨b,a,rfl,h,i,j,k,m⟩;dsimp only;rw[a2 (aG (ae:¬((d.length:Z)<au d)))];refine bA.2 ⟨a,b,bq,h,i,j,k,?_⟩;simp_all [amz,cj]
 rintro _ ⟨a,b,rfl,h,i,j,k,m⟩;have n:=it i;have t:=hy d.length;rw[h] at n;have u:b=0:=ae;grind [bA]
theorem agD (y:a1 f) (q:a<f.length) (z:a1 d) (K:a+d.length<c) (I:c<=100000000) (w:g.length=c) (x:a1 g) (C:jU g (a+d.length)) {p:jk->Prop} (J:∀h b,b.length=c->a1 b->jU b (a+d.length)->0<=h->h<4294967296->al b+bb (a+d.length)*h=al g+bb a*(f[a]*al d)->p (h,b,())):ah (loop (σ:=qQ) (ρ:=jk) (λ(k,j,m,_)=>
 bif bw (j<au d) then
 (az f (a:Z)).bind λu=>
 (az d j).bind λs=>
 rd m (aD ((a:Z)+j)) λt=>
 wr m (aD ((a:Z)+j)) (eY (aS (aS (k+aS (aS u*aS s))+aS t))) λH=>
 (e8 bG (aS (aS (k+aS (aS u*aS s))+aS t)) 32).bind λG=>
 Y (.inl (G,aT j,H,())) else
 Y (.inr (k,m,()))) (0,0,g,())) p:=by
 refine ah.steps d.length (λe F=>∃h b,F=(h,(e:Z),b,())/\b.length=c/\a1 b/\jU b (a+d.length)/\0<=h/\h<4294967296/\al b+bb (a+e)*h=al g+bb a*(f[a]*al (d.take e))) ⟨0,g,bq,w,x,C,aa,aa,by simp[al]⟩ ?_ ?_
 ·rintro e _ l ⟨h,b,rfl,aB,o,r,bj,D,E⟩;have A:=y.get q;have B:=z.get l;have M:=o.get (n:=a+e) aa;have L:=Gh A B;obtain⟨i,N,O,P⟩:∃i,i=h+f[a]*d[e]+b[a+e]/\0<=i/\i<18446744073709551616:=⟨_,bq,aa,aa⟩;simp only[aJ (ae:(e:Z)<au d),bI,fc l,fc q,aM];have ar:aD ((a:Z)+(e:Z))=((a+e:X):Z):=(by grind [cG]);rw[ar,ky aa];have v:aS (aS (h+aS (aS f[a]*aS d[e]))+aS b[a+e])=i:=by
   grind [gm]
  rw[v,rJ,nw aa,oF];refine bA.2 ⟨i/4294967296,b.set (a+e) (i %4294967296),by rw[bk aa],ae,o.set aa aa,r.Mh _ aa,aa,aa,?_⟩;rw[oJ aa,(aa:a+(e+1)=(a+e)+1),iV,j3 l];grind [xd,aom]
 rintro _ ⟨h,b,rfl,aB,o,r,bj,D,E⟩;simp_all [gJ,bf,bA,aG,a8,bQ,au]
theorem agr (r:a1 f) (s:a1 d) (u:f.length<=10000000) (v:d.length<=10000000):ah (Jg (f,d,())) (λg=>∃a,g=(a,())/\a1 a/\al a=al f*al d/\a.length=f.length+d.length):=by
 unfold Jg;dsimp only;have q:aD (au f+au d)=((f.length+d.length:X):Z):=(by grind [cG,a8]);rw[q,jq aa,bT];refine ah.aO (P:=λg=>∃a,g=(a,())/\a.length=f.length+d.length/\a1 a/\al a=al f*al d) ?_ ?_
 ·refine ah.steps f.length (λb t=>∃a,t=((b:Z),a,())/\a.length=f.length+d.length/\a1 a/\jU a (b+d.length)/\al a=al (f.take b)*al d) ⟨_,bq,ac,ans _,jU.n2 _ _,by simp[al,s3]⟩ ?_ ?_
  ·rintro b _ m ⟨a,rfl,aB,o,p,bj⟩;dsimp only;rw[a5 (aJ (ae:(b:Z)<au f))];refine ah.aO (P:=λg=>∃e c,g=(e,c,())/\c.length=f.length+d.length/\a1 c/\jU c (b+d.length)/\0<=e/\e<4294967296/\al c+bb (b+d.length)*e=al a+bb b*(f[b]*al d)) (agD r m s aa aa aB o p λe c n k h i j l=>⟨e,c,bq,n,k,h,i,j,l⟩) ?_;rintro _ ⟨e,c,rfl,n,k,h,i,j,l⟩;have ar:aD ((b:Z)+au d)=((b+d.length:X):Z):=(by grind [cG,a8]);dsimp only;rw[ar,mr i j,nw aa];refine bA.2 ⟨c.set (b+d.length) e,by rw[bk aa],ae,k.set i j,?_,?_⟩
   ·rw[(aa:b+1+d.length=b+d.length+1)];exact h.set _
   rw[oJ aa,h _ (bf _) aa,j3 m,apo,l,bj];grind
  rintro _ ⟨a,rfl,aB,o,p,bj⟩;dsimp only;rw[a2 (aG (ae:¬((f.length:Z)<au f)))];grind [bA]
 grind [bA]
theorem LX {x y:Z} (n:aP x.natAbs<=3000000) (o:aP y.natAbs<=3000000):yf (aK x,aK y,())=Y (aK (x+y),()):=by
 obtain⟨a,f,r⟩:=h9 n;obtain⟨b,g,s⟩:=h9 o;unfold yf;dsimp only;refine bR.1 ?_;refine ah.bs (uP a f aa) (ah.bs (uP b g aa) ?_);dsimp only;have u:=i7 x;have v:=i7 y;have p:(aK x).1=bw (x<0):=rfl;have q:(aK y).1=bw (y<0):=rfl;rw[p,q];by_cases m:(bw (x<0)==bw (y<0))=bt
 ·rw[a5 m];refine ah.aO (afY a b aa aa) ?_;rintro _ ⟨k,rfl,d,e,l⟩;refine ah.bs (zh d ae e) (bA.2 ?_);grind
 rw[a2 ae];have t:¬(x<0↔y<0):=ae;refine ah.bs (af5 a b f g aa aa) ?_;dsimp only;rw[de];refine ah.ite (λh=>?_) λh=>?_
 ·have j:=Dz.1 h;have i:(aK y).2.1.length<=(aK x).2.1.length:=by
   rcases c6 (aK x).2.1.length (aK y).2.1.length with c|c
   ·have:=s2 a b g c;omega
   omega
  refine ah.aO (Tv a b aa i j) ?_;rintro _ ⟨k,rfl,d,e,l⟩;refine ah.bs (zh d ae e) (bA.2 ?_);grind
 have j:al (aK x).2.1<al (aK y).2.1:=Int.not_le.1 (mt Dz.2 h);have i:(aK x).2.1.length<=(aK y).2.1.length:=by
  rcases c6 (aK y).2.1.length (aK x).2.1.length with c|c
  ·have:=s2 b a f c;omega
  omega
 refine ah.aO (Tv b a aa i (gT j)) ?_;rintro _ ⟨k,rfl,d,e,l⟩;refine ah.bs (zh d ae e) (bA.2 ?_);grind
theorem agI (a:aP b.natAbs<=3000000) (c:aP e.natAbs<=3000000):EY (aK b,aK e,())=Y (aK (b-e),()):=by simp_all [aq,LX,xk,Int.sub_eq_add_neg,Tj,EY]
theorem agq (i:aP b.natAbs<=3000000) (j:aP e.natAbs<=3000000):Jf (aK b,aK e,())=Y (aK (b*e),()):=by
 obtain⟨a,d,m⟩:=h9 i;obtain⟨c,f,n⟩:=h9 j;unfold Jf;dsimp only;refine bR.1 ?_;refine ah.bs (uP a d aa) (ah.bs (uP c f aa) ?_);dsimp only;refine ah.aO (agr a c aa aa) ?_;rintro _ ⟨o,rfl,k,l,p⟩;refine ah.bs (zh k ae l) (bA.2 ?_);dsimp only;rw[i7,i7];congr 2;show(if(!(bw (b<0)==bw (e<0)))=bt then _ else _)=_;rcases anG b 0 with g|g<;>rcases anG e 0 with h|h
 ·grind
 ·grind
 ·grind
 grind
theorem L7 {n:Z} (b:-9223372036854775808<=n) (c:n<=9223372036854775807):yg (n,())=Y (aK n,()):=by
 unfold yg;dsimp only;obtain⟨a,d,e,f⟩:∃a:Z,a=n.natAbs/\0<=a/\a<=9223372036854775808:=⟨_,bq,aa,aa⟩;refine aq (y:=(a,(bu,([],())),())) ?_ ?_
 ·rw[de];grind [gm,cA,cG]
 dsimp only;rw[oF,bT,rJ a,mr (x:=a/4294967296) aa aa];refine aq (Ck (ant.2 ⟨⟨aa,aa⟩,ant.2 ⟨⟨aa,aa⟩,ana⟩⟩) ac) ?_;grind [al,hK]
theorem Tt {z:Z} {n:X} (a:aP z.natAbs<=3000000) (g:n<=10000000):p2 (aK z,(n:Z),())=Y (aK (z*2^n),()):=by obtain⟨c,e,f⟩:=h9 a;unfold p2;dsimp only;refine bR.1 ?_;refine ah.bs (GW a) ?_;dsimp only;rw[a5 (aJ (aa:(n:Z)>=0))];refine ah.aO (agH c aa (n:=n) aa) ?_;rintro _ ⟨h,rfl,d,b,i⟩;rw[i7] at b;refine ah.bs (zh d ae b) (bA.2 ?_);dsimp only;congr 2;show(if bw (z<0)=bt then _ else _)=_;grind
theorem agG (j:aP b.natAbs<=2900000) (q:a<=10000000) (r:0<a):p2 (aK b,-(a:Z),())=Y (aK (b/2^a),()):=by
 obtain⟨f,o,p⟩:=h9 (z:=b) aa;have i:=lv a;unfold p2;dsimp only;refine bR.1 ?_;refine ah.bs (GW aa) ?_;dsimp only;have ar:aD (0- -(a:Z))=(a:Z):=(by grind [cG]);rw[a2 (aG (aa:¬(-(a:Z)>=0))),ar];refine ah.aO (Tu f aa (n:=a) aa) ?_;rintro _ ⟨u,rfl,k,e,v⟩;rw[i7] at e|-;dsimp only;refine ah.bs (zh k aa e) ?_;dsimp only;have l:(aK b).1=bw (b<0):=rfl;rw[l];have s:0<=(b.natAbs:Z)/2^a:=an0 aa aa;have t:(b.natAbs:Z)/2^a<=b.natAbs:=aoQ _ aa;have c:=Rn (m:=b.natAbs) i aa;refine ah.bs (y:=((bu,([],())),aK (b/2^a),())) ?_ (bA.2 bq);by_cases g:b<0
 ·rw[aJ g];rw[(aa:-(b.natAbs:Z)=b)] at c;by_cases d:(b.natAbs:Z) %2^a=0
  ·grind
  rw[aJ (show(b.natAbs:Z) %2^a≠0 from d)];refine aq bq ?_;dsimp only[bI];rw[b6 d] at c;refine aq (L7 ab ab) ?_;dsimp only;have h:aP (-((b.natAbs:Z)/2^a)).natAbs<=3000000:=(by rw[fY];have:=fY.1 j;omega);rw[cc bq];refine aq (agI h ab) ?_;grind
 grind
def Ir (b:aP c<=a) (d:aP k<=a):aP (c+k)<=a+1:=by rw[fY,vk];have:=fY.1 b;have:=fY.1 d;omega
def Tg {z:Z} {n:X} (c:aP z.natAbs<=3000000) (e:n<=10000000):A2 (aK z,(n:Z),())=Y (bw ((z.natAbs:Z) %2^n≠0),()):=by obtain⟨a,b,d⟩:=h9 c;unfold A2;dsimp only;refine bR.1 ?_;refine ah.bs (uP a b aa) ?_;dsimp only;refine ah.aO (Tu a aa (n:=n) aa) ?_;rintro _ ⟨f,rfl,g,h,i⟩;rw[i7];exact bA.2 bq
def ago {z:Z} (p:0<=z) (d:z<9223372036854775808):EX (aK z,())=Y (z,bt,()):=by
 have f:aP z.natAbs<=64:=fY.2 aa;obtain⟨b,n,o⟩:=h9 (z:=z) aa;have q:(aK z).2.1.length<=2:=Bm aa;unfold EX;dsimp only;refine bR.1 ?_;refine ah.bs (GW aa) ?_;dsimp only;rw[a2 (aG (show¬(au (aK z).2.1>2) by simp only[a8];omega))];refine ah.aO (P:=λl=>l=(z,aK z,())) ?_ ?_
 ·have k:=i7 z;refine ah.steps (aK z).2.1.length (λa m=>m=(al ((aK z).2.1.take a),(a:Z),aK z,())) rfl ?_ ?_
  ·rintro a _ c rfl;have h:=b.get c;dsimp only;rw[a5 (aJ (show(a:Z)<au (aK z).2.1 by simp only[a8];omega)),fc c,bT];have d:=gB (b.take a);have e:=it (b.take a);rw[am5,aoL aa,rM] at e;have ar:aD (32*(a:Z))=((32*a:X):Z):=(by rw[cG aa aa];simp);have f:(2:Z)^(32*a)<=4294967296:=by
    rcases(aa:a=0\/a=1) with rfl|rfl<;>decide
   have j:=lv (32*a);have r:(aK z).2.1[a]*2^(32*a)<4294967296*4294967296:=(by have:=mw f h.1;omega);have g:0<=(aK z).2.1[a]*2^(32*a):=nA h.1 (gT j);rw[ar,gm (x:=(aK z).2.1[a]) aa aa,qk aa aa,aM,fV,u5 g aa,nS (32*a) d e g aa aa (apq _ _),bk aa];refine bA.2 ?_;show(_,_,aK z,())=(_,_,aK z,());rw[j3 c,rM,mv (2^(32*a))]
  rintro _ rfl;dsimp only;rw[a2 (aG (show¬(((aK z).2.1.length:Z)<au (aK z).2.1) by simp only[a8];omega)),amz (cj _),k];refine bA.2 ?_;show(((z.natAbs:X):Z),aK z,())=_;rw[(aa:((z.natAbs:X):Z)=z)]
 rintro _ rfl;have i:(aK z).1=bu:=aG aa;dsimp only;rw[i,bQ,a2 (aG (aa:¬(z>9223372036854775807))),cG aa aa];exact bA.2 bq
theorem Mk (h:aP e.natAbs<=1900000) (f:-1048576<=b) (g:b<=1048576):qZ (aK e,b,())=Y (aK (rB e b),0,()):=by
 rcases lB b 0 with d|d
 ·obtain⟨a,c⟩:∃a:X,b=-(a:Z):=⟨(-b).toNat,aa⟩;subst c;grind [ag4,zm]
 obtain⟨a,c⟩:∃a:X,b=(a:Z):=⟨b.toNat,aa⟩;grind [ag5,pu]
theorem L9 (h:aP e.natAbs<=2900000) (f:-10000000<=b) (g:b<=10000000):p2 (aK e,b,())=Y (aK (rB e b),()):=by
 rcases lB b 0 with d|d
 ·obtain⟨a,c⟩:∃a:X,b=-(a:Z):=⟨(-b).toNat,aa⟩;subst c;grind [agG,zm]
 obtain⟨a,c⟩:∃a:X,b=(a:Z):=⟨b.toNat,aa⟩;grind [Tt,pu]
def eF (a:Z):Z:=if a=0 then 0 else eD a
theorem Gj:cO 0=0:=rfl
theorem hd (a:Z):aE (Y a)=(bu,aK (cO a),eF a,()):=by
 by_cases b:a=0
 ·subst b;rfl
 rw[Pf b,eF,aw b]
theorem k5 (a:gb b):aP (cO b).natAbs<=131072:=by
 by_cases c:b=0
 ·subst c;exact a
 grind [Lf,gb]
theorem kO (a:gb b):-65536<=eF b/\eF b<=65536:=by grind [sZ,gb,eD,eF]
theorem KW (c:gb b):gQ (cO b) (eF b)=Y b:=by
 by_cases a:b=0
 ·subst a;rfl
 rw[eF,aw a,aaM c]
theorem abr (c:b=0\/e<=eD b) (g:-65536<=e):cO b*2^(eF b-e).toNat*2^(e+65536).toNat=b:=by
 by_cases a:b=0
 ·grind [Gj]
 have d:=oy b;have f:=c.resolve_left a;rw[eF,aw a,ju,<-nB];grind [eD,cV]
theorem Pe (z:b≠0) (v:¬(e+cV b.natAbs< -65536\/65536<e+aP b.natAbs)):aE (gQ b e)=(bu,aK (b/2^cV b.natAbs),e+cV b.natAbs,())/\(gQ b e).isSome=bt:=by
 obtain⟨c,s⟩:∃c,c=rB b (e+65536):=⟨_,bq⟩;have r:gQ b e=Y c:=(by simp_all [aw,gQ]);rw[r];refine⟨?_,bq⟩;obtain⟨h,y⟩:=uT (n:=b.natAbs) aa;have o:=(ur (n:=b.natAbs) (k:=cV b.natAbs) aa).1 (bf _);have q:b/2^cV b.natAbs*2^cV b.natAbs=b:=Fm o;have A:(b/2^cV b.natAbs).natAbs=2*h+1:=(by grind [aqs,anY,BV]);generalize x:cV b.natAbs=d at*;generalize w:b/2^d=j at*;have t:c=j*2^(e+d+65536).toNat:=by
  rw[s,<-q];rcases ary 0 (e+65536) with l|l
  ·obtain⟨a,g⟩:∃a:X,e+65536=a:=⟨(e+65536).toNat,aa⟩;rw[g,pu,ju,<-nB];grind
  obtain⟨a,g⟩:∃a:X,e+65536=-(a:Z):=⟨(-(e+65536)).toNat,aa⟩;obtain⟨i,p⟩:∃i:X,d=i+a:=⟨d-a,aa⟩;rw[g,zm,p,nB,<-ju,CZ _ (by have:=lv a;omega)];grind
 obtain⟨f,m⟩:∃f:X,e+d+65536=f:=⟨(e+d+65536).toNat,aa⟩;rw[m,fV] at t;have u:c.natAbs=(2*h+1)*2^f:=(by grind [jr]);have B:cV c.natAbs=f:=zu u;have C:c≠0:=ae;grind [Int.mul_ediv_cancel,lv,Pf,eD,cO]
theorem Te {m:Z} {n:X} (e:aP m.natAbs<=1900000) (f:n<=1048576):Aw (aK m,(n:Z),())=Y (aK (m/2^n),()):=by
 unfold Aw;dsimp only;refine bR.1 ?_;refine ah.aO (P:=λc=>c=((n:Z),aK m,(bu,([],())),())) ?_ ?_
 ·refine ah.steps 0 (λb a=>a=((n:Z),aK m,(bu,([],())),())) rfl (λb a d=>by omega) ?_;rintro _ rfl;dsimp only;rw[a2 (aG (aa:¬((n:Z)>1048576)))];grind [bA]
 grind [cG,arM,ah.bs,Mk,bA,zm]
theorem BH {m k:Z} (b:aP m.natAbs<=1900000) (c:0<=k) (a:k<=1048576):o9 (aK m,k,())=Y (aK (m*2^k.toNat),()):=by unfold o9;refine aq (Mk b aa a) ?_;grind [pu,cD]
theorem Rs (p:aP e.natAbs<=900000) (m:-1000000000000<=v) (o:v<=1000000000000):nf ((bu,aK e,v,()),())=Y (aE (gQ e v),(gQ e v).isSome,()):=by
 obtain⟨f,k,l⟩:=h9 (z:=e) aa;unfold nf;dsimp only;rw[bQ];have d:=Rt (b:=aK e) f aa;rw[oI] at d;refine aq d ?_;refine aq (sU (jA aa)) ?_;dsimp only;rw[gV,de];split
 ·rename_i a;have:e=0:=by
   grind [gE]
  subst this;rfl
 rename_i a;have c:e≠0:=(by intro v;subst v;exact a bq);have q:=sZ (n:=e.natAbs) aa;refine aq (Uy (jA aa) c) ?_;dsimp only;by_cases i:v+cV e.natAbs< -65536\/65536<v+aP e.natAbs
 ·have j:gQ e v=br:=(by simp_all [aw,ay,gQ]);rw[j];refine aq (y:=.inr (aE br,bu,())) ?_ bq;refine aq (y:=(bt,(bu,((bu,([],())),((0:Z),()))),aK e,())) ?_ bq;refine aq (xL (jA aa)) ?_;grind [aG,aJ,cG]
 obtain⟨g,h⟩:=Pe c i;rw[g,h];refine aq (y:=.inl ((bu,((bu,([],())),((0:Z),()))),aK e,())) ?_ ?_
 ·refine aq (y:=(bu,(bu,((bu,([],())),((0:Z),()))),aK e,())) ?_ bq;refine aq (xL (jA aa)) ?_;grind [aG,cG]
 refine aq (Te aa aa) ?_;grind [cG]
theorem sI {d:amp} (b:da d):nf (aE d,())=Y (aE d,d.isSome,()):=by
 cases d with
 |none=>rfl
 |some c=>
  have a:=b c bq;have e:=k5 a;have f:=kO a;grind [hd,Rs,KW]
def yO (d:aP e.natAbs<=900000) (a:-1000000000000<=b) (c:b<=1000000000000):se (aK e,b,())=Y (aE (gQ e b),()):=by unfold se;exact aq (Rs d a c) rfl
def ym (a:da m):tH (aE m,())=Y (aE m,()):=by unfold tH;exact aq (sI a) rfl
def iF (a:amp):Z:=gE (a.getD 0)
theorem ag1 (a:Z):gE (cO a)=gE a:=by
 unfold gE;have:=BY (v:=a);by_cases b:a=0
 ·subst b;rfl
 simp_all [k4,aw]
def nM (a:da m):o8 (aE m,())=Y (iF m,()):=by
 unfold o8;refine aq (sI a) ?_;cases m with
 |none=>exact aq (sU (z:=0) (jA ab)) rfl
 |some b=>
  have c:=k5 (a b bq);rw[hd];refine aq (sU (jA aa)) ?_;show Y (gE (cO b),())=_;rw[ag1];rfl
theorem MD {a b:amp} (c:da a) (d:da b):xT (aE a,aE b,())=Y (aE a,aE b,a.isSome&&b.isSome,()):=by unfold xT;refine aq (sI c) (aq (sI d) ?_);grind
def cK (c d:amp):amp:=c.bind λa=>d.bind λb=>gQ (cO a*cO b) (eF a+eF b)
def cZ (a b:amp):amp:=a.bind λc=>b.bind λd=>nb (c+d)
def dk (a:amp):amp:=a.map λb=>-b
def z8 (a:amp):amp:=a.map λb=>(b.natAbs:Z)
theorem ox (b c:amp):da (cK b c):=by
 intro d a;unfold cK at a;cases b with
 |none=>cases a
 |some e=>cases c with
  |none=>cases a
  |some f=>exact KX _ _ d a
theorem pV (b c:amp):da (cZ b c):=by
 intro d a;unfold cZ at a;cases b with
 |none=>cases a
 |some e=>cases c with
  |none=>cases a
  |some f=>exact W3 _ d a
theorem Rm (b:da m):da (dk m):=by
 intro d a;cases m with
 |none=>cases a
 |some c=>cases a;have:=b c bq;grind [aps,gb]
def pd (a:da m) (b:da o):nc (aE m,aE o,())=Y (aE (cK m o),()):=by
 unfold nc;refine aq (MD a b) ?_;cases m with
 |none=>rfl
 |some c=>
  cases o with
  |none=>rfl
  |some d=>
   have e:=k5 (a c bq);have f:=k5 (b d bq);have g:=kO (a c bq);have h:=kO (b d bq);rw[hd,hd];refine aq (Rf aa aa) ?_;dsimp only;rw[cG aa aa];refine aq (yO ?_ aa aa) rfl;rw[Int.natAbs_mul];have:=vy e f;omega
theorem Lg (a:Z):cO (-a)=-cO a:=by have b:=oy a;grind [Int.eq_of_mul_eq_mul_right,Int.neg_mul,lv,aps,oy,cO,cV]
theorem JE (a:Z):eF (-a)=eF a:=by simp_all [aw,xk,eF,eD]
theorem abo (a:Z):cO (a.natAbs:Z)=((cO a).natAbs:Z):=by
 have c:=BY (v:=a);rcases lB a 0 with b|b
 ·grind [Lg]
 grind
theorem Yp (a:Z):eF (a.natAbs:Z)=eF a:=by grind [JE,anG]
def XN (b:da m):DI (aE m,())=Y (aE (dk m),()):=by
 unfold DI;refine aq (sI b) ?_;cases m with
 |none=>rfl
 |some a=>
  have c:=k5 (b a bq);rw[hd];refine aq (aq (K9 (jA aa)) rfl) ?_;show Y ((bu,aK (-cO a),eF a,()),())=Y (aE (Y (-a)),());rw[hd,Lg,JE]
def Xy (b:da m):DG (aE m,())=Y (aE (z8 m),()):=by
 unfold DG;refine aq (sI b) ?_;cases m with
 |none=>rfl
 |some a=>
  have c:=k5 (b a bq);rw[hd];refine aq (aq (z9 (jA aa)) rfl) ?_;show Y ((bu,aK ((cO a).natAbs:Z),eF a,()),())=Y (aE (Y (a.natAbs:Z)),());rw[hd,abo,Yp]
def j2 (a b:Z):Z:=cO a*2^(eF a-b).toNat
theorem CG (a:e=0\/b<=eD e) (c:-65536<=b):j2 e b*2^(b+65536).toNat=e:=abr a c
def w3 (a:b=0\/e<=eD b) (f:-65536<=e) (g:gb b):aP (j2 b e).natAbs<=131072:=by
 have c:=CG a f;have d:(j2 b e).natAbs<=b.natAbs:=by
  conv=>rhs;rw[<-c,jr]
  exact Nat.le_mul_of_pos_right _ (kD _)
 exact eE (kq d) g
def Kz (c:b=0\/e<=eD b) (h:-65536<=e) (i:e<=65536) (a:gb b) (d:e<=eF b):o9 (aK (cO b),eF b-e,())=Y (aK (j2 b e),()):=by have f:=k5 a;have g:=kO a;exact BH aa aa aa
theorem Q1 (a:-65536<=b) (c:e=0\/b<=eD e) (d:v=0\/b<=eD v):gQ (j2 e b+j2 v b) b=nb (e+v):=by grind [Int.add_mul,CG,BT]
theorem lJ (a:e<=eF b):b=0\/e<=eD b:=by
 by_cases c:b=0
 ·omega
 simp_all [aw,eF]
def Nw (f:gb b) (g:gb e):∃a,a<=eF b/\a<=eF e/\-65536<=a/\a<=65536/\Av (aE (Y b),aE (Y e),())=Y (aK (j2 b a),aK (j2 e a),a,()):=by have h:=kO f;have i:=kO g;refine⟨if eF e<eF b then eF e else eF b,aa,aa,aa,aa,?_⟩;unfold Av;rw[hd,hd];dsimp only;generalize j:(if eF e<eF b then eF e else eF b)=a;have ar:a<=eF b:=aa;have c:a<=eF e:=aa;have d:-65536<=a:=aa;rw[cG (x:=eF b-a) aa aa,cG (x:=eF e-a) aa aa];exact aq (Kz (lJ ar) d aa f ar) (aq (Kz (lJ c) d aa g c) rfl)
def ON (e:da m) (b:da o):At (aE m,aE o,())=Y (aE (cZ m o),()):=by
 unfold At;refine aq (MD e b) ?_;cases m with
 |none=>rfl
 |some h=>
  cases o with
  |none=>rfl
  |some i=>
   have f:=e h bq;have g:=b i bq;obtain⟨c,ar,d,a,n,l⟩:=Nw f g;have j:=w3 (lJ ar) a f;have k:=w3 (lJ d) a g;refine aq l (aq (xF aa aa) ?_);have b:aP (j2 h c+j2 i c).natAbs<=131073:=eE (kq (zJ _ _)) (Ir j k);refine aq (yO aa aa aa) ?_;rw[Q1 a (lJ ar) (lJ d)];rfl
def Bh (b:da m) (a:da o):tI (aE m,aE o,())=Y (aE (cZ m (dk o)),()):=by unfold tI;exact aq (XN a) (aq (ON b (Rm a)) rfl)
theorem ah9 (c:-65536<=b) (h:e=0\/b<=eD e) (i:v=0\/b<=eD v):j2 e b<j2 v b↔e<v:=by
 have f:=CG h c;have g:=CG i c;have d:=lv (b+65536).toNat;constructor
 ·intro a;have:=xj a d;omega
 intro a;rw[<-f,<-g] at a;exact Int.lt_of_mul_lt_mul_right a (gT d)
theorem Jp (d:gb e) (f:gb v):xS (aE (Y e),aE (Y v),())=Y (gh e v,bt,()):=by unfold xS;refine aq (MD (a:=Y e) (b:=Y v) (λj i=>by grind) (λj i=>by grind)) ?_;obtain⟨m,ar,g,c,n,h⟩:=Nw d f;have k:=w3 (lJ ar) c d;have l:=w3 (lJ g) c f;refine aq h (aq (IG aa aa) ?_);grind [ah9,lJ,gh]
def jD (a:Z):amp:=gQ a 0
def vY (a:-9223372036854775808<=b) (c:b<=9223372036854775807):pZ (b,())=Y (aE (jD b),()):=by unfold pZ;have d:aP b.natAbs<=64:=fY.2 aa;exact aq (yt a c) (aq (yO aa ab ab) rfl)
def j1:ev->Z
 |[]=>0
 |d::a=>d.getD 0+j1 a
def l6:ev->bD
 |[]=>bt
 |d::a=>d.isSome&&l6 a
def sW (a:ev):amp:=if l6 a=bt then nb (j1 a) else br
theorem Uk (a b:ev):j1 (a++b)=j1 a+j1 b:=by
 induction a with
 |nil=>simp[j1]
 |cons d a c=>grind [j1]
theorem V3 (a b:ev):l6 (a++b)=(l6 a&&l6 b):=by
 induction a with
 |nil=>simp[l6]
 |cons d a c=>grind [Bool.and_assoc,l6]
def ahX (b:a<x.length):j1 (x.take (a+1))=j1 (x.take a)+(x[a]).getD 0:=by rw[j6,cH b];show j1 (x.take a++[x[a]])=_;rw[Uk];simp[j1]
theorem V5 (b:a<x.length):l6 (x.take (a+1))=(l6 (x.take a)&&(x[a]).isSome):=by grind [V3,amG,bZ,l6]
theorem Ny (b:l6 x=bt) (d:a<x.length):∃c,x[a]=Y c:=by
 induction x generalizing a with
 |nil=>grind
 |cons f x e=>
  simp only[l6,cJ] at b;cases a with
  |zero=>grind [Option.isSome_iff_exists]
  |succ a=>simp_all
theorem V4 (b:a<x.length) (c:x[a]=br):l6 x=bu:=by grind [Ny]
def XR (A:∀B∈x,da B) (L:x.length<=1000000):DN (x.map aE,())=Y (aE (sW x),()):=by
 unfold DN;refine bR.1 ?_;dsimp only;refine ah.aO (P:=λr=>match r with
  |.inl o=>∃b,o=(b,(bu,((bu,([],())),((0:Z),()))),x.map aE,())/\l6 x=bt/\-65536<=b/\b<=0/\(∀a d,(C:a<x.length)->x[a]=Y d->b<=eF d)
  |.inr o=>o=(aE (sW x),())) ?_ ?_
 ·refine ah.steps x.length (λa u=>∃b,u=(b,(a:Z),(bu,((bu,([],())),((0:Z),()))),(x.take a).map aE,())/\l6 (x.take a)=bt/\-65536<=b/\b<=0/\(∀h d,(C:h<x.length)->h<a->x[h]=Y d->b<=eF d)) ⟨0,bq,bq,ab,ab,λh d f g=>by omega⟩ ?_ ?_
  ·rintro a _ e ⟨b,rfl,f,g,s,l⟩;have z:=A x[a] (ca e);dsimp only;rw[a5 (aJ (show(a:Z)<au (x.map aE) by simp only[a8,cb];omega))];refine ah.bs (y:=aE x[a]) ?_ (ah.bs (sI z) ?_)
   ·rw[fc (by simpa using e),pH]
   dsimp only;cases m:x[a] with
   |none=>
    refine ah.bs bq (bA.2 ?_);show(aE br,())=_;rw[sW,aw];rw[V4 e m];simp
   |some d=>
    have n:gb d:=z d m;have I:=kO n;show ah ((c3 _).bind _) _;rw[fe (by simp;omega)];refine bA.2 ⟨if eF d<b then eF d else b,?_,?_,by split<;>omega,by split<;>omega,?_⟩
    ·rw[bk aa,j6,cH e,m];simp only[Option.toList_some,kA,hA,tg,hd]
    ·rw[V5 e,f,m];rfl
    intro h K J N t;rcases c6 h a with v|v
    ·have:=l h K J v t;split<;>omega
    obtain rfl:h=a:=aa;rw[m] at t;cases t;split<;>omega
  rintro _ ⟨b,rfl,f,g,s,l⟩;dsimp only;rw[a2 (aG (show¬((x.length:Z)<au (x.map aE)) by simp only[a8,cb];omega))];rw[amz (cj _)] at f|-;exact bA.2 ⟨b,bq,f,g,s,λa d e j=>l a d e e j⟩
 rintro(r|r) q
 ·obtain⟨b,rfl,f,g,s,l⟩:=q;dsimp only;refine ah.aO (P:=λo=>∃c,o=((bu,((bu,([],())),((0:Z),()))),aK c,())/\c*2^(b+65536).toNat=j1 x/\aP c.natAbs<=200000) ?_ ?_
  ·have w:∀c:Z,c.natAbs<=x.length*2^131072->aP c.natAbs<=200000:=λc G=>by
    refine eE (kq G) ?_;have:aP x.length<=20:=fY.2 aa;have D:aP (2^131072)<=131073:=fY.2 (GA 131072 131073 ab);have:=vy this D;omega
   refine ah.steps x.length (λa u=>∃c,u=((a:Z),(bu,((bu,([],())),((0:Z),()))),x.map aE,aK c,())/\c*2^(b+65536).toNat=j1 (x.take a)/\c.natAbs<=a*2^131072) ⟨0,bq,by rw[n4];simp[j1],(eU _:(0:X)<=_)⟩ ?_ ?_
   ·rintro a _ e ⟨c,rfl,i,k⟩;obtain⟨d,j⟩:=Ny f e;have n:gb d:=A x[a] (ca e) d j;have p:=l a d e j;have H:=w3 (lJ p) g n;have I:=kO n;have M:=w c (cC k (aqz _ aa));dsimp only;rw[a5 (aJ (show(a:Z)<au (x.map aE) by simp only[a8,cb];omega)),ky (by simpa using e),List.getElem_map,j,hd];dsimp only;rw[cG aa aa];refine ah.bs (Kz (lJ p) g aa n p) (ah.bs (xF aa aa) (bA.2 ⟨c+j2 d b,by rw[bk aa],?_,?_⟩))
    ·rw[Int.add_mul,i,CG (lJ p) g,ahX e,j];rfl
    have E:=fY.1 H;have F:=zJ c (j2 d b);exact eE F (aaV k E)
   rintro _ ⟨c,rfl,i,k⟩;dsimp only;rw[a2 (aG (show¬((x.length:Z)<au (x.map aE)) by simp only[a8,cb];omega))];rw[amz (cj _)] at i;exact bA.2 ⟨c,bq,i,w c k⟩
  rintro _ ⟨c,rfl,i,k⟩;refine ah.bs (yO aa aa aa) (bA.2 ?_);show(aE (gQ c b),())=_;rw[BT g i.symm,sW,ay f]
 have q:r=_:=q;rw[q];exact bA.2 bq
theorem ly:(gE b==0)=bw (b=0):=by rw[gV,amD];unfold gE;omega
theorem L3 {m:Z} {n:X} (e:aP m.natAbs<=1900000) (f:n<=1048576):yi (aK m,(n:Z),())=Y (aK (m/2^n),()):=by
 unfold yi;dsimp only;refine bR.1 ?_;refine ah.aO (P:=λc=>c=((n:Z),aK m,(bu,([],())),())) ?_ ?_
 ·refine ah.steps 0 (λb a=>a=((n:Z),aK m,(bu,([],())),())) rfl (λb a d=>by omega) ?_;rintro _ rfl;dsimp only;rw[a2 (aG (aa:¬((n:Z)>1048576)))];grind [bA]
 grind [cG,arM,ah.bs,L9,bA,zm]
theorem Th {b:qo} {m:Z} (d:a1 b.2.1) (s:b.2.1.length<=100000000) (h:hK b=m) (E:aP m.natAbs<=900000) (w:-1000000000000<=e) (z:e<=1000000000000):p3 (b,e,())=Y (aE (gQ m e),()):=by
 unfold p3;dsimp only;have g:=Tk d s;rw[h] at g;refine aq g ?_;dsimp only;rw[sy,de];split
 ·rename_i a;have:=wb.1 a;subst this;rfl
 rename_i a;have f:m≠0:=λe=>a (wb.2 e);have F:=sZ (n:=m.natAbs) aa;have D:=r8 (m:=m.natAbs) aa;rw[de];split
 ·rename_i i;have c:gQ m e=br:=(by unfold gQ;grind);rw[c];rfl
 rename_i i;refine aq (Tx aa f) (aq (S1 aa) (aq (L3 (m:=(m.natAbs:Z)) ae aa) ?_));have r:=(ur (n:=m.natAbs) (k:=cV m.natAbs) aa).1 (cj _);have p:(m.natAbs:Z)/2^cV m.natAbs=(((m/2^cV m.natAbs).natAbs:X):Z):=(by grind [BV,y5,aqA]);have o:aP ((m/2^cV m.natAbs).natAbs)=aP m.natAbs-cV m.natAbs:=(by rw[BV r,Ds]);rw[p];dsimp only;rw[cG (x:=e+(cV m.natAbs:Z)) aa aa];by_cases q:e+cV m.natAbs< -65536\/65536<e+aP m.natAbs
 ·have c:gQ m e=br:=(by simp_all [aw,ay,gQ]);rw[c];refine aq (y:=.inr (aE br,())) ?_ bq;refine aq (y:=(bt,(bu,((bu,([],())),((0:Z),()))),aK ((m/2^cV m.natAbs).natAbs:Z),())) ?_ bq;by_cases j:e+(cV m.natAbs:Z)< -65536
  ·grind
  rw[aG j];refine aq (L0 ae) ?_;rw[aqB,o];dsimp only;rw[cG aa aa,aJ (aa:e+(cV m.natAbs:Z)+((aP m.natAbs-cV m.natAbs:X):Z)>65536)]
 obtain⟨l,A⟩:=Pe f q;rw[l];refine aq (y:=.inl ((bu,((bu,([],())),((0:Z),()))),aK ((m/2^cV m.natAbs).natAbs:Z),())) ?_ ?_
 ·refine aq (y:=(bu,(bu,((bu,([],())),((0:Z),()))),aK ((m/2^cV m.natAbs).natAbs:Z),())) ?_ bq;rw[aG (aa:¬(e+(cV m.natAbs:Z)< -65536))];refine aq (L0 ae) ?_;grind [cG,aG,aqB]
 dsimp only;congr 3;have t:b.1=bw (m/2^cV m.natAbs<0):=(by have B:(m/2^cV m.natAbs<0)↔m<0:=BY (v:=m);have C:b.1=bw (m<0):=(by have u:=gB d;unfold hK at h;grind);grind);rw[t];rfl
def zg {e:Z} (d:aP b.natAbs<=900000) (a:-1000000000000<=e) (c:e<=1000000000000):p3 (aK b,e,())=Y (aE (gQ b e),()):=
 Th (mL b) (by have:=(h9 (z:=b) aa).2.2;omega) (oI b) d a c
def wM (c:da m):q1 (aE m,())=Y (aE m,()):=by
 cases m with
 |none=>rfl
 |some b=>
  have a:=c b bq;have d:=k5 a;have f:=kO a;unfold q1;rw[hd];refine aq (zg (e:=eF b) aa aa aa) ?_;rw[KW a,hd]
theorem Bk (a:amp):(aE a).1=!a.isSome:=by
 cases a with
 |none=>rfl
 |some b=>rw[hd];rfl
theorem agf (b:da m):Jj (aE m,())=Y (aE (dk m),()):=by
 unfold Jj;refine aq (wM b) ?_;cases m with
 |none=>rfl
 |some a=>
  have c:=b a bq;have f:=k5 c;have g:=kO c;rw[hd];refine aq (Tj aa) (aq (zg (e:=eF a) ae aa aa) ?_);have d:gb (-a):=(by grind [aps,gb]);rw[<-Lg,<-JE,KW d];rfl
theorem Uz (a:Z):j2 0 a=0:=by unfold j2;rw[Gj,n4]
theorem Hn (a:Z):j2 a (eF a)=cO a:=by grind [j2]
theorem Rx:cO b=0↔b=0:=by
 constructor
 ·grind [k4]
 rintro rfl;rfl
theorem V1 (g:gb b) (h:gb e):∃a,(b=0\/a<=eD b)/\(e=0\/a<=eD e)/\-65536<=a/\a<=65536/\yh (aE (Y b),aE (Y e),())=Y (aK (j2 b a),aK (j2 e a),a,()):=by
 have k:=kO g;have l:=kO h;have i:=k5 g;have j:=k5 h;by_cases c:b=0
 ·subst c;refine⟨eF e,.inl bq,lJ (anE _),aa,aa,?_⟩;unfold yh;rw[hd,hd];refine aq (qh aa) ?_;grind [ly,aJ,Uz,Hn]
 by_cases d:e=0
 ·subst d;refine⟨eF b,lJ (anE _),.inl bq,aa,aa,?_⟩;unfold yh;rw[hd,hd];refine aq (qh aa) ?_;dsimp only;rw[ly,aG (k4 c)];refine aq (qh aa) ?_;grind [ly,aJ,Uz,Hn]
 by_cases f:eF b>eF e
 ·refine⟨eF e,lJ aa,lJ (anE _),aa,aa,?_⟩;unfold yh;rw[hd,hd];refine aq (qh aa) ?_;dsimp only;rw[ly,aG (k4 c)];refine aq (qh aa) ?_;dsimp only;rw[ly,aG (k4 d),aJ f,cG aa aa,Hn];refine aq (L9 aa aa aa) ?_;grind [pu,j2,eF]
 refine⟨eF b,lJ (anE _),lJ aa,aa,aa,?_⟩;unfold yh;rw[hd,hd];refine aq (qh aa) ?_;dsimp only;rw[ly,aG (k4 c)];refine aq (qh aa) ?_;dsimp only;rw[ly,aG (k4 d),aG f,cG (x:=eF e-eF b) aa aa,Hn];refine aq (L9 aa aa aa) ?_;grind [pu,j2,eF]
theorem agc (h:da m) (f:da o):Jh (aE m,aE o,())=Y (aE (cZ m o),()):=by
 unfold Jh;refine aq (wM h) (aq (wM f) ?_);cases m with
 |none=>rfl
 |some a=>
  cases o with
  |none=>dsimp only;rw[hd a];rfl
  |some c=>
   have i:=h a bq;have j:=f c bq;obtain⟨b,ar,g,d,p,n⟩:=V1 i j;have k:=w3 ar d i;have l:=w3 g d j;refine aq (y:=.inl (aE (Y a),aE (Y c),(bu,((bu,([],())),((0:Z),()))),())) ?_ ?_
   ·grind [Bk]
   dsimp only;refine aq n (aq (LX aa aa) ?_);have f:aP (j2 a b+j2 c b).natAbs<=131073:=cC (kq (Int.natAbs_add_le _ _)) (Ir k l);refine aq (zg (e:=b) aa aa aa) ?_;rw[Q1 d ar g];rfl
def agh (b:da m) (a:da o):Jk (aE m,aE o,())=Y (aE (cZ m (dk o)),()):=by unfold Jk;exact aq (agf a) (aq (agc b (Rm a)) rfl)
def age (a:da m) (b:da o):Ji (aE m,aE o,())=Y (aE (cK m o),()):=by
 unfold Ji;refine aq (wM a) (aq (wM b) ?_);cases m with
 |none=>rfl
 |some c=>
  cases o with
  |none=>dsimp only;rw[hd c];rfl
  |some d=>
   have e:=k5 (a c bq);have f:=k5 (b d bq);have g:=kO (a c bq);have h:=kO (b d bq);rw[hd,hd];refine aq bq ?_;dsimp only;refine aq (agq aa aa) ?_;dsimp only;rw[cG aa aa];refine aq (zg ?_ aa aa) rfl;rw[Int.natAbs_mul];have:=vy e f;omega
def agd (a:-9223372036854775808<=b) (c:b<=9223372036854775807):E3 (b,())=Y (aE (jD b),()):=by unfold E3;have d:aP b.natAbs<=64:=fY.2 aa;exact aq (L7 a c) (aq (zg aa ab ab) rfl)
def bo (a:Z):Z:=a/4503599627370496 %2048
def gA (a:Z):Z:=a %4503599627370496
def fM (a:Z):Prop:=0<=a/\a<18446744073709551616
def aV (a:Z):amp:=
 if bo a=2047 then br
 else gQ (if a<9223372036854775808 then if bo a=0 then gA a else gA a+4503599627370496 else-(if bo a=0 then gA a else gA a+4503599627370496)) (if bo a=0 then-1074 else bo a-1075)
theorem kL (b:Z):da (aV b):=by
 intro c a;unfold aV at a;split at a
 ·cases a
 exact KX _ _ c a
def LL (a:fM b):xV (b,())=Y (bo b,gA b,()):=by unfold xV;dsimp only;have c:=a.1;have d:=a.2;rw[Cx ab ab,bT,show(2:Z)^(52:Z).toNat=4503599627370496 from rfl,tv 11 aa aa 2047 ab ab,tv 52 aa aa 4503599627370495 ab ab,cG aa aa];rfl
theorem N2 (g:fM b):(fo bG b 9223372036854775808 !=0)=bw (9223372036854775808<=b):=by
 obtain⟨c,j⟩:=g;obtain⟨a,rfl⟩:=gd c;have f:a<18446744073709551616:=aa;have d:(9223372036854775808:Z)=((2^63:X):Z):=rfl;rw[d,NE f ab,fZ];rcases c6 a (2^63) with e|e
 ·have h:a&&&2^63=0:=by
   refine arA λk=>?_;rw[arB,aqg,Nat.zero_testBit];grind
  grind
 have h:a&&&2^63≠0:=(by intro i;have c:(a&&&2^63).testBit 63=bu:=ae;grind);grind
theorem aa1 (a:fM b):DW (b,())=Y (bw (9223372036854775808<=b),()):=by grind [N2,DW]
theorem BC (a:fM b):pa (b,())=Y (!bw (bo b=2047),()):=by simp_all [fZ,aq,LL,pa]
def ov (a:Z):Z:=if bo a=2047 then if gA a=0 then 2 else 3 else if bo a=0/\gA a=0 then 0 else 1
theorem Qn (a:fM b):Ay (b,())=Y (ov b,()):=by unfold Ay ov;refine aq (LL a) ?_;grind
theorem yo (a:Z):0<=gA a/\gA a<4503599627370496:=by grind [gA]
theorem Bo (a:Z):0<=bo a/\bo a<2048:=by grind [bo]
theorem oz (g:fM b):kb (b,())=Y (aE (aV b),()):=by
 unfold kb aV;have o:=yo b;have n:=Bo b;refine aq (LL g) ?_;dsimp only;rw[gV,gV];by_cases e:bo b=2047
 ·rw[aJ e,ay e];rfl
 rw[aG e,aw e];obtain⟨a,d,h,i,j,k,l,f⟩:∃a d,(bif bw (bo b=0) then some (Sum.inl ((-1074:Z),gA b,((false,((false,([],())),((0:Z),()))):fB),())) else some (.inl (aD (bo b-1075),hu bG (gA b) 4503599627370496,(false,((false,([],())),((0:Z),()))),())):bv ((Z×Z×fB×bz)⊕g4))=some (.inl (d,a,(false,((false,([],())),((0:Z),()))),()))/\0<=a/\a<9007199254740992/\-1074<=d/\d<=972/\(a=(if bo b=0 then gA b else gA b+4503599627370496)/\d=(if bo b=0 then-1074 else bo b-1075)):=by
  by_cases c:bo b=0
  ·refine⟨gA b,-1074,?_,aa,aa,aa,aa,by rw[ay c],by rw[ay c]⟩;grind
  refine⟨gA b+4503599627370496,bo b-1075,?_,aa,aa,aa,aa,by rw[aw c],by rw[aw c]⟩;rw[aG c,cG aa aa,nS 52 aa aa aa aa aa ab];rfl
 rw[<-f.1,<-f.2];refine aq h ?_;dsimp only;rw[cG aa aa];have m:aP a.natAbs<=53:=fY.2 aa;refine aq (yt aa aa) ?_;refine aq (y:=((bu,((bu,([],())),((0:Z),()))),aK (if b<9223372036854775808 then a else-a),())) ?_ ?_
 ·refine aq (aa1 g) ?_;dsimp only;by_cases c:b<9223372036854775808
  ·grind
  rw[aJ (aa:9223372036854775808<=b),aw c];exact aq (K9 (jA aa)) rfl
 dsimp only;refine aq (yO ?_ aa aa) rfl;grind
def p4 (d:bD) (a:X) (b:Z) (c:bD):xE:=(d,aK (a:Z),b,c,())
theorem rh (a:X):(a:Z).natAbs=a:=by omega
theorem aaj (e:aP a<=900000) (c:-10000000<=b) (d:b<=10000000):DK (p4 n a b i,())=Y (b+aP a-1,()):=by unfold DK p4;refine aq (xL (jA ae)) ?_;grind [cG,rh]
theorem Xv {t:bD} (l:aP a<=900000) (u:0<a) (B:0<c) (C:c<=10000000):Au (p4 t a b i,(c:Z),())=Y (aK ((a/2^c:X):Z),mI a c i,bw (a %2^c=0)&&!i,()):=by
 unfold Au p4;refine aq (xL (jA ae)) ?_;rw[rh];dsimp only;have D:=anY c;rw[de];split
 ·rename_i p;have q:a<2^(c-1):=fY.1 aa;obtain⟨d,rfl⟩:∃d,c=d+1:=⟨c-1,aa⟩;simp only[aqv] at q;have ar:a %2^(d+1)=a:=Nat.mod_eq_of_lt aa;have g:a/2^(d+1)=0:=apt aa;rw[ar,g];have h:mI a (d+1) i=-1:=(by unfold mI;omega);rw[h,aG (aa:¬a=0)];rfl
 rename_i p;have w:=apb a (2^c);have E:aP (a/2^c)<=900000:=cC (kq (aoR _ _)) l;have F:aP (a %2^c)<=900000:=cC (kq (Nat.mod_le _ _)) l;have r:a/2^c*2^c<=a:=Nat.div_mul_le_self _ _;refine aq (Te (m:=(a:Z)) (n:=c) ae aa) ?_;have ar:(a:Z)/2^c=((a/2^c:X):Z):=ae;rw[ar];refine aq (BH (m:=((a/2^c:X):Z)) (k:=(c:Z)) ae aa aa) ?_;have g:((a/2^c:X):Z)*2^(c:Z).toNat=((a/2^c*2^c:X):Z):=ae;rw[g];refine aq (ahz (x:=(a:Z)) (y:=((a/2^c*2^c:X):Z)) ae (by rw[rh];exact cC (kq r) aa)) ?_;have h:(a:Z)-((a/2^c*2^c:X):Z)=((a %2^c:X):Z):=ae;rw[h];refine aq (yt (n:=1) ab ab) ?_;dsimp only;rw[cG (x:=(c:Z)-1) aa aa];refine aq (BH (m:=1) (k:=(c:Z)-1) ab aa aa) ?_;obtain⟨d,rfl⟩:∃d,c=d+1:=⟨c-1,aa⟩;have o:(1:Z)*2^(((d+1:X):Z)-1).toNat=((2^d:X):Z):=ae;rw[o];have A:aP (2^d)<=900000:=(by have:aP (2^d)<=d+1:=fY.2 (arx ab aa);omega);refine aq (IG (x:=((a %2^(d+1):X):Z)) (y:=((2^d:X):Z)) ae ae) ?_;dsimp only;have v:(if gh ((a %2^(d+1):X):Z) ((2^d:X):Z)=0/\i=bt then 1 else gh ((a %2^(d+1):X):Z) ((2^d:X):Z))=mI a (d+1) i:=by
  unfold mI gh;have s:2^(d+1)=2*2^d:=aa;generalize a %2^(d+1)=f at*;rw[s];generalize 2^d=e at*;rcases vi f e with j|j|j
  ·rw[ay (aa:(f:Z)<(e:Z)),aw ac,ay aa]
  ·grind
  rw[aw (aa:¬((f:Z)<(e:Z))),ay (aa:(e:Z)<(f:Z)),aw ac,aw aa,ay aa]
 refine aq (y:=(mI a (d+1) i,aK ((a/2^(d+1):X):Z),aK ((a %2^(d+1):X):Z),())) ?_ ?_
 ·grind
 refine aq (sU (z:=((a %2^(d+1):X):Z)) (jA ae)) ?_;grind [aG,aJ,ly]
theorem BZ {n:X}:(n≠0/\cV n=0)↔n %2=1:=by
 constructor
 ·rintro⟨b,c⟩;have:=ur (n:=n) (k:=1) aa;omega
 intro a;refine⟨aa,?_⟩;have:=ur (n:=n) (k:=1) aa;omega
theorem aaW {d:bD} (m:aP a<=900000) (w:0<a) (G:-1000000<=b-e) (H:b-e<=1000000):DL (p4 d a b i,e,v,())=Y (aK (if d then-((if e<=b then a*2^(b-e).toNat else iO d a (e-b).toNat i v:X):Z) else((if e<=b then a*2^(b-e).toNat else iO d a (e-b).toNat i v:X):Z)),()):=by
 unfold DL;have l:∀f:X,aP f<=2000000->(bE (α:=m8) (
  bif d then
 (sg (aK (f:Z),())).bind λ(E,_)=>
 Y (((bu,([],())):fm),E,()) else
 Y ((bu,([],())),aK (f:Z),())) λ(_,D,_)=>
 Y (D,()))=Y (aK (if d then-(f:Z) else(f:Z)),()):=λf J=>by
  cases d
  ·rfl
  refine aq (y:=((bu,([],())),aK (-(f:Z)),())) ?_ bq;have I:Fit (f:Z)\/True:=.inr trivial;have o:=h9 (z:=(f:Z)) ae;refine aq (y:=(aK (-(f:Z)),())) ?_ bq;unfold sg;refine aq (Ap (by have:=o.2.2;omega)) (aq (xJ (mL _) (by have:=o.2.2;omega)) ?_);grind [oI,Hq]
 by_cases j:e<=b
 ·rw[ay j];obtain⟨c,g⟩:∃c:X,b-e=c:=⟨(b-e).toNat,aa⟩;rw[g,fV];refine aq (y:=((-1:Z),bt,(bu,([],())),aK ((a*2^c:X):Z),())) ?_ ?_
  ·show(bif bw (e<=b) then _ else _)=_;rw[aJ j];refine aq (y:=(aK ((a*2^c:X):Z),())) ?_ bq;show o9 (aK (a:Z),aD (b-e),())=_;rw[cG aa aa,BH (by grind [rh]) aa aa,g,fV,pF,y5]
  refine aq bq (aq bq ?_);exact l _ (eE It aa)
 rw[aw j];obtain⟨c,g⟩:∃c:X,e-b=c:=⟨(e-b).toNat,aa⟩;rw[g,fV];refine aq (y:=(mI a c i,bw (a %2^c=0)&&!i,(bu,([],())),aK ((a/2^c:X):Z),())) ?_ ?_
 ·show(bif bw (e<=b) then _ else _)=_;rw[aG j];refine aq (y:=(aK ((a/2^c:X):Z),mI a c i,bw (a %2^c=0)&&!i,())) ?_ bq;show Au (p4 d a b i,aD (e-b),())=_;rw[cG aa aa,g];exact Xv m w aa aa
 have A:aP (a/2^c)<=900000:=eE (kq (aoR _ _)) m;refine aq (y:=(!(bw (a %2^c=0)&&!i)&&w4 d (mI a c i) (bw (a/2^c %2=1)) v,(bu,([],())),aK ((a/2^c:X):Z),())) ?_ ?_
 ·dsimp only;cases q:(bw (a %2^c=0)&&!i) with
  |true=>rfl
  |false=>
   show(bif v==1 then Y (d,_,_,()) else _)=_;unfold w4;rw[gV,gV,gV];by_cases r:v=1
   ·grind
   rw[aG r,aw r];by_cases k:v=2
   ·rw[aJ k,ay k];rfl
   rw[aG k,aw k];by_cases s:v=3
   ·grind
   rw[aG s,aw s];generalize mI a c i=h;show(bif bw (h>0)==bu then _ else _)=_;by_cases u:h>0
   ·grind
   rw[aG u];show(bif (h==0)==bt then _ else _)=_;rw[gV];by_cases t:h=0
   ·rw[aJ t];refine aq (sU (z:=((a/2^c:X):Z)) (jA (by grind [rh]))) ?_;dsimp only;have K:=BZ (n:=a/2^c);rw[fZ];by_cases F:a/2^c=0
    ·rw[aJ (show gE ((a/2^c:X):Z)=0 by rw[F];rfl),aG (aa:¬(a/2^c %2=1))];rfl
    have B:gE ((a/2^c:X):Z)≠0:=(by unfold gE;omega);rw[aG B];refine aq (Uy (z:=((a/2^c:X):Z)) (jA (by grind [rh])) aa) ?_;rw[rh];simp_all [aG,aJ,gV,cV]
   grind
 dsimp only;refine aq (y:=((bu,([],())),aK ((iO d a c i v:X):Z),())) ?_ ?_
 ·unfold iO;by_cases q:a %2^c=0/\i=bu
  ·simp_all
  have C:(bw (a %2^c=0)&&!i)=bu:=ae;rw[aw q,C];by_cases p:w4 d (mI a c i) (bw (a/2^c %2=1)) v=bt
  ·rw[ay p,p];refine aq (yt (n:=1) ab ab) ?_;refine aq (xF (x:=((a/2^c:X):Z)) (y:=1) (by grind [rh]) ab) ?_;rfl
  simp_all
 refine l _ ?_;have:iO d a c i v<=a/2^c+1:=(by unfold iO;grind);exact eE (kq this) (eE (Ir A (ab:aP 1<=900000)) aa)
def Cy (a:0<=b) (c:b<9223372036854775808):vM (b,i,())=Y (j0 i b,()):=by
 unfold vM j0;cases i
 ·rfl
 dsimp only;rw[nS 63 a (by exact c) ab aa ab ab,apn];rfl
theorem Ss:DX (i,b,())=Y (rq i b,()):=by
 unfold DX rq;dsimp only;refine aq (y:=if(b=3\/(b=1/\i=bu)\/(b=2/\i=bt)) then .inr (j0 i 9218868437227405311,()) else .inl ()) ?_ ?_
 ·refine aq (y:=(bw (b=3\/(b=1/\i=bu)\/(b=2/\i=bt)),())) ?_ ?_
  ·rw[gV,gV,gV];by_cases e:b=3
   ·grind
   by_cases c:b=1
   ·grind
   by_cases d:b=2
   ·simp_all
   grind
  dsimp only;by_cases a:(b=3\/(b=1/\i=bu)\/(b=2/\i=bt))
  ·rw[aJ a,ay a];exact aq (Cy ab ab) rfl
  grind
 by_cases a:(b=3\/(b=1/\i=bu)\/(b=2/\i=bt))
 ·rw[ay a,ay a]
 rw[aw a,aw a];exact aq (Cy ab ab) rfl
theorem CH {neg sF:bD} {e sE:Z} (d:0<a):(if eH a e<=e then a*2^(e-eH a e).toNat else iO neg a (eH a e-e).toNat sF sE)<=9007199254740992:=by
 have f:=fY.1 (bf (aP a));have h:=r8 d;have i:e+aP a-53<=eH a e:=(by grind [eH]);split
 ·rename_i c;have b:a*2^(e-eH a e).toNat<2^aP a*2^(e-eH a e).toNat:=Nat.mul_lt_mul_of_pos_right f (kD _);rw[<-kk] at b;have g:2^(aP a+(e-eH a e).toNat)<=2^53:=vj ab aa;omega
 rename_i c;have b:a/2^(eH a e-e).toNat<2^53:=(by rw[apa (kD _),<-kk];grind [Nat.lt_of_lt_of_le,Nat.pow_le_pow_right]);grind [iO]
theorem Tr (r:aP a<=800000) (h:0<a) (p:-500000<=b) (q:b<=500000):Az (p4 i a b n,v,())=Y (mU i a b n v,()):=by
 have s:=r8 h;have t:=CH (neg:=i) (sF:=n) (sE:=v) (e:=b) h;have m:mU i a b n v=ls i (if eH a b<=b then a*2^(b-eH a b).toNat else iO i a (eH a b-b).toNat n v) (eH a b) v:=(by grind [mU]);have o:eH a b=if(-1074:Z)>b+aP a-1-52 then-1074 else b+aP a-1-52:=by grind [eH]
 have w:-1074<=eH a b:=aa;have A:eH a b<=1400000:=aa;unfold Az;refine aq (aaj aa aa aa) ?_;dsimp only;rw[cG aa aa,<-o,m];refine aq (aaW aa h ?_ ?_) ?_
 ·omega
 ·omega
 generalize(if eH a b<=b then a*2^(b-eH a b).toNat else iO i a (eH a b-b).toNat n v)=c at*;generalize eH a b=d at*;have u:aP c<=54:=fY.2 aa;have l:(if i then-(c:Z) else(c:Z)).natAbs=c:=aa;refine aq (z9 (jA ae)) ?_;rw[l];refine aq (ZH (z:=(c:Z)) aa aa) ?_;dsimp only;rw[gm (x:=(c:Z)) aa aa,gV];show bE _ _=Y (ls i c d v,());unfold ls;by_cases j:c=9007199254740992
 ·rw[aJ (aa:(c:Z)=9007199254740992),aw (aa:¬c<4503599627370496),ay j];refine aq (y:=(d+1,4503599627370496,())) ?_ ?_
  ·grind [cA]
  dsimp only;rw[aG (aa:¬((4503599627370496:Z)<4503599627370496)),cG aa aa,bQ,de];split
  ·rename_i g;exact aq Ss bq
  rename_i g;rw[gm aa aa,qk ab ab,show(2:Z)^(52:Z).toNat=4503599627370496 from rfl,aM];have ar:aS (4503599627370496-4503599627370496)=0:=(by grind [gm]);have f:(d+1+1075)*4503599627370496 %18446744073709551616=(d+1+1075)*4503599627370496:=aa;rw[ar,f,B7,nS 52 ab ab aa ab aa aa,anZ];exact aq (Cy aa aa) rfl
 rw[aG (aa:¬(c:Z)=9007199254740992)];refine aq (y:=(d,(c:Z),())) rfl ?_;dsimp only;rw[de];by_cases k:c<4503599627370496
 ·rw[ay (aa:(c:Z)<4503599627370496),ay k];exact aq (Cy aa aa) rfl
 rw[aw (aa:¬(c:Z)<4503599627370496),aw k,aw j,cG aa aa,de];split
 ·rename_i g;exact aq Ss bq
 rename_i g;rw[gm (x:=d+1075) aa aa,qk ab ab,show(2:Z)^(52:Z).toNat=4503599627370496 from rfl,bT,gm (x:=(c:Z)-4503599627370496) aa aa];have f:(d+1075)*4503599627370496 %18446744073709551616=(d+1075)*4503599627370496:=aa;rw[f,B7,nS 52 aa aa aa aa aa aa];refine aq (Cy aa aa) ?_;dsimp only;congr 3;omega
def g6 (c d:amp) (e:Z):Z:=match c,d with
 |some a,Y b=>if b=0 then 9221120237041090560 else if a=0 then 0 else zd a b e
 |_,_=>9221120237041090560
def GX (b:amp) (c:Z):Z:=match b with
 |some a=>if a<0 then 9221120237041090560 else if a=0 then 0 else L8 a c
 |none=>9221120237041090560
def Gl (a:Z):(aK (cO a)).1=bw (a<0):=by show bw (cO a<0)=_;rw[amD];exact BY
theorem af3 (h:gb b) (i:gb e) (z:b≠0) (A:e≠0) (j:Z):∃c d k,DJ (aE (Y b),aE (Y e),56,())=Y (p4 (bw (b<0)!=bw (e<0)) c d k,())/\0<c/\aP c<=800000/\-500000<=d/\d<=500000/\mU (bw (b<0)!=bw (e<0)) c d k j=zd b e j:=by
 have q:=k5 h;have r:=k5 i;have s:=kO h;have t:=kO i;have n:0<(cO b).natAbs:=(by grind [k4]);have o:0<(cO e).natAbs:=(by grind [k4]);obtain⟨a,p⟩:∃a,a=sM (cO b).natAbs (cO e).natAbs:=⟨_,bq⟩;have v:a<=131131:=(by grind [sM]);have g:58<=aP ((cO b).natAbs*2^a/(cO e).natAbs):=SX n o (by grind [sM]);have u:aP ((cO b).natAbs*2^a)<=262203:=(by grind [It]);refine⟨(cO b).natAbs*2^a/(cO e).natAbs,eF b-a-eF e,bw ((cO b).natAbs*2^a %(cO e).natAbs≠0),?_,?_,?_,aa,aa,?_⟩
 ·unfold DJ;rw[hd,hd];refine aq (xL (jA aa)) (aq (xL (jA aa)) (aq (z9 (jA aa)) ?_));dsimp only;have ar:(if aD (aD (aD (56+3)+(aP (cO e).natAbs:Z))-(aP (cO b).natAbs:Z))>0 then aD (aD (aD (56+3)+(aP (cO e).natAbs:Z))-(aP (cO b).natAbs:Z)) else 0)=(a:Z):=by
   grind [cG,sM,aP,cO]
  rw[ar];refine aq (BH (m:=((cO b).natAbs:Z)) ae aa aa) (aq (z9 (jA aa)) ?_);have l:((cO b).natAbs:Z)*2^(a:Z).toNat=(((cO b).natAbs*2^a:X):Z):=ae;rw[l];refine aq (XM (x:=(((cO b).natAbs*2^a:X):Z)) (y:=((cO e).natAbs:Z)) ae ae aa aa) ?_;rw[<-aqA,<-Int.natCast_emod];have w:aP ((cO b).natAbs*2^a %(cO e).natAbs)<=900000:=cC (kq (Nat.mod_le _ _)) aa;refine aq (sU (jA ae)) ?_;dsimp only;rw[cG (x:=eF b-(a:Z)) aa aa,cG aa aa,Gl,Gl];grind [ly,aJ,aG,gE,cO,decide,p4]
 ·rcases rX ((cO b).natAbs*2^a/(cO e).natAbs) with f|f
  ·rw[f] at g;exact absurd g ab
  omega
 ·exact eE (kq (aoR _ _)) aa
 unfold zd GL;rw[<-p];congr 1;unfold eF;omega
theorem YR (e:da o) (d:da m):tJ (aE o,aE m,b,())=Y (g6 o m b,()):=by
 unfold tJ;refine aq (ym e) (aq (ym d) ?_);dsimp only;rw[Bk,Bk];cases o with
 |none=>cases m<;>rfl
 |some c=>
  cases m with
  |none=>rfl
  |some a=>
   by_cases f:a=0
   ·subst f;refine aq (y:=.inr (9221120237041090560,())) ?_ bq;refine aq (y:=(bt,aE (Y c),aE (Y 0),())) ?_ bq;refine aq (nM d) ?_;rfl
   by_cases g:c=0
   ·subst g;refine aq (y:=.inr (0,())) ?_ ?_
    ·refine aq (y:=(bu,aE (Y 0),aE (Y a),())) ?_ ?_
     ·refine aq (nM d) ?_;dsimp only;rw[show iF (Y a)=gE a from rfl,ly,aG f]
     refine aq (nM e) ?_;rfl
    simp_all [aw,g6]
   obtain⟨h,i,r,j,k,l,n,p,q⟩:=af3 (e c bq) (d a bq) g f b;refine aq (y:=.inl (aE (Y c),aE (Y a),())) ?_ ?_
   ·refine aq (y:=(bu,aE (Y c),aE (Y a),())) ?_ ?_
    ·refine aq (nM d) ?_;dsimp only;rw[show iF (Y a)=gE a from rfl,ly,aG f]
    refine aq (nM e) ?_;dsimp only;rw[show iF (Y c)=gE c from rfl,ly,aG g];rfl
   simp_all [aq,Tr,aw,g6]
theorem agJ:sj (aK 0,())=Y (0,()):=by
 unfold sj;refine aq (uP (l:=[]) ana (λf b=>by cases b) ab) ?_;refine bR.1 (ah.aO (P:=λd=>d=.inl ()) ?_ ?_)
 ·refine ah.steps 0 (λc a=>a=((0:Z),())) rfl (λc a e=>by omega) ?_;grind [bA]
 grind [bA]
theorem Tl {n:X} (c:aP n<=900000):∃a,sj (aK (n:Z),())=Y (a,())/\((a=0/\n≠0)↔n %2=1):=by
 by_cases b:n=0
 ·grind [agJ]
 refine⟨(cV n:Z),?_,?_⟩
 ·grind [rh,Tx]
 grind [BZ]
theorem aie:E5 (i,b,n,e,())=Y (w4 i b n e,()):=by unfold E5 w4;grind
theorem af6 {f:bD} (q:aP a<=800000) (C:c<=1000000):E2 (f,aK (a:Z),(c:Z),i,b,())=Y (aK ((iO f a c i b:X):Z),()):=by
 unfold E2;have g:∀e:X,(a:Z)/2^e=((a/2^e:X):Z):=λe=>(by rw[<-y5,<-aqA]);have o:∀e:X,bw (((a:Z).natAbs:Z) %2^e≠0)=bw (a %2^e≠0):=λe=>ae;have E:∀e,aP (a/2^e)<=800000:=λe=>cC (kq (aoR _ _)) q;refine aq (L3 (m:=(a:Z)) (n:=c) ae aa) ?_;rw[g];refine aq (Tg (z:=(a:Z)) (n:=c) ae aa) ?_;rw[o];dsimp only;by_cases v:a %2^c=0/\i=bu
 ·simp_all [ay,aG,aq,iO,aK]
 refine aq (y:=.inl ((bu,([],())),aK ((a/2^c:X):Z),())) ?_ ?_
 ·grind
 dsimp only;refine aq (y:=(mI a c i,(bu,([],())),aK ((a/2^c:X):Z),())) ?_ ?_
 ·rw[de];split
  ·rename_i p;obtain⟨d,rfl⟩:∃d,c=d+1:=⟨c-1,aa⟩;have l:aD (((d+1:X):Z)-1)=(d:Z):=(by grind [cG]);rw[l];refine aq (L3 (m:=(a:Z)) (n:=d) ae aa) ?_;rw[g];obtain⟨k,h,t⟩:=Tl (n:=a/2^d) ae;have r:=aaR a d 1;rw[Nat.pow_one] at r;have B:=anT a (kD d);have D:2^(d+1)=2*2^d:=aa;refine aq (y:=(bw (a/2^d %2=1),(bu,([],())),aK ((a/2^(d+1):X):Z),())) ?_ ?_
   ·refine aq h ?_;dsimp only;rw[gV];by_cases w:k=0
    ·rw[aJ w];refine aq (qh (z:=((a/2^d:X):Z)) ae) ?_;grind [ly,aJ,aG]
    grind
   dsimp only;unfold mI;by_cases s:a/2^d %2=1
   ·rw[aJ s];have u:a %2^(d+1)=2^d+a %2^d:=ae;rw[u,aw aa];cases i
    ·show(bE _ _)=_;refine aq (Tg (z:=(a:Z)) (n:=d) ae aa) ?_;grind
    grind
   grind
  rename_i p;obtain rfl:c=0:=aa;simp_all [ay,Nat.pow_zero,Nat.mod_one,mI]
 dsimp only;obtain⟨k,h,t⟩:=Tl (n:=a/2^c) ae;refine aq (y:=(bw (a/2^c %2=1),(bu,([],())),aK ((a/2^c:X):Z),())) ?_ ?_
 ·refine aq (qh (z:=((a/2^c:X):Z)) ae) ?_;dsimp only;have A:(gE ((a/2^c:X):Z)!=0)=bw (a/2^c≠0):=by
   grind [aG,aJ,ly]
  grind
 dsimp only;refine aq (y:=((bu,([],())),aK ((iO f a c i b:X):Z),())) ?_ bq;refine aq aie ?_;dsimp only;unfold iO;rw[b6 v];by_cases j:w4 f (mI a c i) (bw (a/2^c %2=1)) b=bt
 ·rw[ay j,j];refine aq (L7 (n:=1) ab ab) ?_;refine aq (LX (x:=((a/2^c:X):Z)) (y:=1) ae ab) ?_;rfl
 grind
def Cl (a:0<=b) (c:b<9223372036854775808):sk (i,b,())=Y (j0 i b,()):=by
 unfold sk j0;cases i
 ·rfl
 dsimp only;rw[nS 63 a (by exact c) ab aa ab ab,apn];rfl
theorem Ts:A8 (i,b,())=Y (rq i b,()):=by
 unfold A8 rq;dsimp only;refine aq (y:=if(b=3\/(b=1/\i=bu)\/(b=2/\i=bt)) then .inr (j0 i 9218868437227405311,()) else .inl ()) ?_ ?_
 ·refine aq (y:=(bw (b=3\/(b=1/\i=bu)\/(b=2/\i=bt)),())) ?_ ?_
  ·rw[gV,gV,gV];by_cases e:b=3
   ·grind
   by_cases c:b=1
   ·grind
   by_cases d:b=2
   ·simp_all
   grind
  dsimp only;by_cases a:(b=3\/(b=1/\i=bu)\/(b=2/\i=bt))
  ·rw[aJ a,ay a];exact aq (Cl ab ab) rfl
  grind
 by_cases a:(b=3\/(b=1/\i=bu)\/(b=2/\i=bt))
 ·rw[ay a,ay a]
 rw[aw a,aw a];exact aq (Cl ab ab) rfl
theorem aic {neg sF:bD} {e sE:Z} (c:0<a) (j:-1074<eH a e):4503599627370496<=(if eH a e<=e then a*2^(e-eH a e).toNat else iO neg a (eH a e-e).toNat sF sE):=by
 obtain⟨f,h⟩:=xM c;have i:=r8 c;have k:eH a e=e+aP a-53:=(by grind [eH]);have g:(2:X)^52=4503599627370496:=ab;split
 ·rename_i d;have b:2^(aP a-1)*2^(e-eH a e).toNat<=a*2^(e-eH a e).toNat:=hW _ f;rw[<-kk] at b;grind
 rename_i d;have b:2^52<=a/2^(eH a e-e).toNat:=(by rw[aqq (kD _),<-kk];grind);grind [iO]
theorem agC {f:bD} (s:aP a<=800000) (k:0<a) (C:-500000<=b) (D:b<=500000) (H:f=bt->54<=aP a):E8 (i,aK (a:Z),b,f,v,())=Y (mU i a b f v,()):=by
 have E:=r8 k;have F:=CH (neg:=i) (sF:=f) (sE:=v) (e:=b) k;have p:=aic (neg:=i) (sF:=f) (sE:=v) (e:=b) k;have q:mU i a b f v=ls i (if eH a b<=b then a*2^(b-eH a b).toNat else iO i a (eH a b-b).toNat f v) (eH a b) v:=(by grind [mU]);have r:eH a b=if(-1074:Z)>b+aP a-1-52 then-1074 else b+aP a-1-52:=by grind [eH]
 have I:-1074<=eH a b:=aa;have J:eH a b<=1400000:=aa;have w:-1000000<=eH a b-b:=aa;have A:eH a b-b<=1000000:=aa;unfold E8;refine aq (L0 (z:=(a:Z)) ae) ?_;rw[rh];dsimp only;rw[cG (x:=b+(aP a:Z)) aa aa,cG (x:=b+(aP a:Z)-1) aa aa,cG (x:=b+(aP a:Z)-1-52) aa aa,<-r,q,de];split
 ·rename_i t;have K:972<=eH a b:=aa;have p:=p aa;refine aq Ts ?_;clear r q w A;generalize(if eH a b<=b then a*2^(b-eH a b).toNat else iO i a (eH a b-b).toNat f v)=d at*;unfold ls;grind
 rename_i t;refine aq (y:=(aK ((if eH a b<=b then a*2^(b-eH a b).toNat else iO i a (eH a b-b).toNat f v:X):Z),())) ?_ ?_
 ·rw[de];split
  ·rename_i h;obtain⟨g,l⟩:∃g:X,eH a b-b=g:=⟨(eH a b-b).toNat,aa⟩;rw[cG (x:=eH a b-b) aa aa,l,am8];refine aq (af6 s aa) ?_;dsimp only;by_cases B:eH a b<=b
   ·have u:g=0:=aa;have G:f=bu:=by
     grind
    rw[ay B,u];unfold iO;grind
   grind
  rename_i h;obtain⟨g,l⟩:∃g:X,b-eH a b=g:=⟨(b-eH a b).toNat,aa⟩;rw[cG (x:=b-eH a b) aa aa,ay aa,l,fV];refine aq (Tt (z:=(a:Z)) (n:=g) ae aa) ?_;grind
 generalize(if eH a b<=b then a*2^(b-eH a b).toNat else iO i a (eH a b-b).toNat f v)=d at*;generalize eH a b=c at*;dsimp only;refine aq (ago (z:=(d:Z)) aa aa) ?_;dsimp only;rw[gV];unfold ls;by_cases m:d=9007199254740992
 ·rw[aJ (aa:(d:Z)=9007199254740992),aw (aa:¬d<4503599627370496),ay m];refine aq (y:=(c+1,4503599627370496,())) ?_ ?_
  ·grind [cA]
  dsimp only;rw[cG (x:=c+1+53) aa aa,aJ (aa:(4503599627370496:Z)>=4503599627370496)];by_cases h:c+1+1075>=2047
  ·rw[ay h];refine aq (y:=.inr (rq i v,())) ?_ bq;refine aq (y:=(bt,())) ?_ (aq Ts bq);grind
  rw[aw h];refine aq (y:=.inr (j0 i ((c+1+1075)*4503599627370496),())) ?_ bq;refine aq (y:=(bu,())) ?_ ?_
  ·grind
  dsimp only;rw[cG (x:=c+1+1075) aa aa,gm (x:=c+1+1075) aa aa,qk ab ab,show(2:Z)^(52:Z).toNat=4503599627370496 from rfl];have ar:aS (aD (4503599627370496-4503599627370496))=0:=(by grind [cG,gm]);have j:(c+1+1075)*4503599627370496 %18446744073709551616=(c+1+1075)*4503599627370496:=aa;rw[ar,j];show((sk (i,hu bG ((c+1+1075)*4503599627370496) 0,())).bind _)=_;rw[B7,nS 52 ab ab aa ab aa aa,anZ];exact aq (Cl aa aa) rfl
 rw[aG (aa:¬(d:Z)=9007199254740992)];refine aq (y:=(c,(d:Z),())) rfl ?_;dsimp only;rw[cG (x:=c+53) aa aa];by_cases o:d<4503599627370496
 ·rw[aG (aa:¬((d:Z)>=4503599627370496)),ay o,gm (x:=(d:Z)) aa aa];refine aq (y:=.inl ()) ?_ ?_
  ·grind
  exact aq (Cl aa aa) rfl
 rw[aJ (aa:((d:Z)>=4503599627370496)),aw o,aw m];by_cases h:c+1075>=2047
 ·omega
 rw[aw h];refine aq (y:=.inr (j0 i ((c+1075)*4503599627370496+((d:Z)-4503599627370496)),())) ?_ bq;refine aq (y:=(bu,())) ?_ ?_
 ·grind
 dsimp only;rw[cG (x:=c+1075) aa aa,gm (x:=c+1075) aa aa,qk ab ab,show(2:Z)^(52:Z).toNat=4503599627370496 from rfl];have ar:aS (aD ((d:Z)-4503599627370496))=(d:Z)-4503599627370496:=(by grind [cG,gm]);have j:(c+1075)*4503599627370496 %18446744073709551616=(c+1075)*4503599627370496:=aa;rw[ar,j];show((sk (i,hu bG ((c+1075)*4503599627370496) ((d:Z)-4503599627370496),())).bind _)=_;rw[B7,nS 52 aa aa aa aa aa aa];refine aq (Cl aa aa) ?_;grind
theorem NC (a:fM b):e8 bG b 52=Y (b/4503599627370496)/\fo bG (b/4503599627370496) 2047=bo b/\fo bG b 4503599627370495=gA b:=by
 have c:=a.1;have d:=a.2;refine⟨?_,?_,?_⟩
 ·grind [Cx]
 ·rw[tv 11 aa aa 2047 ab ab];rfl
 rw[tv 52 aa aa 4503599627370495 ab ab];rfl
theorem Tf (a:fM b):A6 (b,())=Y (!bw (bo b=2047),()):=by simp_all [fZ,aq,NC,A6]
theorem agp (a:fM b):E6 (b,())=Y (bw (9223372036854775808<=b),()):=by grind [N2,E6]
theorem Tm (g:fM e):A7 (e,())=Y (aE (aV e),()):=by
 obtain⟨i,j,k⟩:=NC g;have t:=yo e;have s:=Bo e;unfold A7 aV;refine aq (Tf g) ?_;dsimp only;by_cases f:bo e=2047
 ·rw[aJ f,ay f];rfl
 rw[aG f,aw f,show(!!bu)=bu from rfl,bQ,i,aM,j,k,cG (x:=bo e) aa aa];obtain⟨a,c,l,n,o,p,q,h⟩:∃a c,(bif bw (bo e>0) then some (hu bG (gA e) 4503599627370496,aD (bo e-1075),((false,((false,([],())),((0:Z),()))):fB),()) else some (gA e,(-1074:Z),(false,((false,([],())),((0:Z),()))),()))=some (a,c,(false,((false,([],())),((0:Z),()))),())/\0<=a/\a<9007199254740992/\-1074<=c/\c<=972/\(a=(if bo e=0 then gA e else gA e+4503599627370496)/\c=(if bo e=0 then-1074 else bo e-1075)):=by
  by_cases d:bo e=0
  ·refine⟨gA e,-1074,?_,aa,aa,aa,aa,by rw[ay d],by rw[ay d]⟩;grind
  refine⟨gA e+4503599627370496,bo e-1075,?_,aa,aa,aa,aa,by rw[aw d],by rw[aw d]⟩;rw[aJ (aa:bo e>0),cG aa aa,nS 52 aa aa aa aa aa ab];rfl
 rw[<-h.1,<-h.2];refine aq l ?_;dsimp only;refine aq (agp g) ?_;rw[oF,bT];dsimp only;rw[rJ a,mr (x:=a/4294967296) aa aa];have r:aP a.natAbs<=53:=fY.2 aa;refine aq (Th (b:=(bw (9223372036854775808<=e),[a %4294967296,a/4294967296],())) (m:=if e<9223372036854775808 then a else-a) (ant.2 ⟨⟨aa,aa⟩,ant.2 ⟨⟨aa,aa⟩,ana⟩⟩) ac ?_ ?_ aa aa) rfl
 ·unfold hK;simp only[al];grind
 grind
def mT (a:amp) (b:Z):Z:=match a with
 |none=>9221120237041090560
 |some c=>qg c b
theorem agB (d:da m):E7 (aE m,b,())=Y (mT m b,()):=by
 unfold E7;refine aq (wM d) ?_;dsimp only;rw[Bk];cases m with
 |none=>rfl
 |some a=>
  have e:=d a bq;have h:=k5 e;have i:=kO e;rw[hd];refine aq (qh aa) ?_;dsimp only;rw[ly];unfold mT qg;by_cases c:a=0
  ·subst c;rw[aJ (show cO 0=0 from rfl)];rfl
  rw[aG (k4 c)];simp only;rw[b6 c,bQ];have g:0<(cO a).natAbs:=(by grind [k4]);refine aq (S1 aa) ?_;dsimp only;rw[Gl];refine aq (agC aa g aa aa (λf=>by cases f)) ?_;simp_all [b6,eF]
def Ki (a:Z):da (jD a):=KX a 0
def wA (a:Z) (b:X):X:=((a %18446744073709551616) %(b:Z)).toNat
theorem Gg (a:Z) {n:X} (b:0<n):wA a n<n:=by simp_all [rP,pD,wA]
theorem KZ (a:Z) {n:X} (c:0<n) (e:n<=9223372036854775807):yb (a,(n:Z),())=Y ((wA a n:Z),()):=by unfold yb;have d:=Gg a c;have b:(a %18446744073709551616) %(n:Z)=(wA a n:Z):=(by unfold wA;have:=aqy (a %18446744073709551616) (aa:(n:Z)≠0);omega);dsimp only;rw[uV a,gm (x:=(n:Z)) aa aa,(LV (x:=a %18446744073709551616) (y:=(n:Z)) ⟨aa,aa⟩ aa).2,b];grind [CL]
theorem aiR (a b:Z):fM (uX bG a b):=by grind [Hx,uX,fM]
theorem UM (e:amv) (i:e.length<=9223372036854775807) (h:Z):ah (yc (e,h,())) (λb=>fM b.1):=by
 have f:∀a b:Z,0<=b->∃c,e8 bG a b=Y c:=λa b d=>(by unfold e8;simp_all);unfold yc;dsimp only;refine ah.aO (P:=λ_=>True) ?_ ?_
 ·rw[de];refine ah.ite (λd=>?_) λd=>bA.2 trivial;simp_all [ah.bs,KZ,fc,bA,trivial,Gg,a8]
 rintro⟨a,_⟩ _;dsimp only;obtain⟨c,g⟩:=f a 31 ab;refine ah.bs g ?_;obtain⟨k,j⟩:=f (aS (uX bG a c*13787848793156543929)) 29 ab;grind [ah.bs,bA,aiR]
theorem TT (a:0<=b) (c:b<9223372036854775808):fM (j0 i b):=by grind [j0,fM]
theorem aeh (b:bD) (a:Z):fM (rq b a):=by grind [TT,rq]
theorem ael (c:a<=9007199254740992) (d:-1074<=b):fM (ls i a b e):=by grind [aeh,TT,ls]
theorem Ti (c:0<a):fM (mU n a b i v):=by have d:=CH (neg:=n) (sF:=i) (sE:=v) (e:=b) c;grind [ael,mU,ls,eH,iO]
def K4:fM 9221120237041090560:=⟨ab,ab⟩
theorem GV (a:amp) (c:Z):fM (mT a c):=by
 unfold mT;cases a with
 |none=>exact K4
 |some d=>
  simp only;unfold qg;by_cases b:d=0
  ·rw[ay b];exact⟨ab,ab⟩
  simp_all [aw,Ti,k4]
theorem GJ (i:Z):fM (g6 m o i):=by
 unfold g6;cases m with
 |none=>exact K4
 |some a=>
  cases o with
  |none=>exact K4
  |some b=>
   simp only;by_cases c:b=0
   ·rw[ay c];exact⟨ab,ab⟩
   by_cases f:a=0
   ·rw[aw c,ay f];exact⟨ab,ab⟩
   rw[aw c,aw f];unfold zd GL;have g:0<(cO a).natAbs:=(by grind [k4]);have h:0<(cO b).natAbs:=(by grind [k4]);have e:58<=aP ((cO a).natAbs*2^sM (cO a).natAbs (cO b).natAbs/(cO b).natAbs):=SX g h (by grind [sM]);refine Ti ?_;rcases rX ((cO a).natAbs*2^sM (cO a).natAbs (cO b).natAbs/(cO b).natAbs) with d|d
   ·rw[d] at e;exact absurd e ab
   omega
structure g1 (rows e0:X) (st jb n0:amv):Prop where
 len:st.length=e0+1
 first:st.getD 0 0=0
 mono:∀j,j<e0->st.getD j 0<=st.getD (j+1) 0
 last:st.getD e0 0=(jb.length:Z)
 val:n0.length=jb.length
 rng:∀j k:X,j<e0->st.getD j 0<=(k:Z)->(k:Z)<st.getD (j+1) 0->0<=jb.getD k 0/\jb.getD k 0<(rows:Z)
 asc:∀j k:X,j<e0->st.getD j 0<(k:Z)->(k:Z)<st.getD (j+1) 0->jb.getD (k-1) 0<jb.getD k 0
theorem hF {i:X} (a:i<d.length):az d (i:Z)=Y (d.getD i 0):=by rw[fc a,k1 a]
theorem ahm (o:d.length<=1000000):EJ (d,())=Y (open Classical in decide (∀a,a+1<d.length->d.getD a 0<=d.getD (a+1) 0),()):=by
 classical
 unfold EJ;dsimp only;refine bR.1 (ah.aO (P:=λj=>match j with|.inl _=>(∀a,a+1<d.length->d.getD a 0<=d.getD (a+1) 0)|.inr k=>k=(bu,())/\¬(∀a,a+1<d.length->d.getD a 0<=d.getD (a+1) 0)) ?_ ?_)
 ·refine am3 (λe=>∃b:X,(e.1=(b:Z)\/(e.1=-1/\b=0))/\b<=d.length/\(b<d.length\/d.length=0)/\(∀a,b<=a->a+1<d.length->d.getD a 0<=d.getD (a+1) 0)) (λe=>e.1.toNat) ⟨d.length-1,?_,aa,aa,λa f h=>by omega⟩ ?_
  ·grind [cG,a8]
  rintro⟨l,_⟩ ⟨b,f,h,m,n⟩;dsimp only at f|-;rw[de];refine ah.ite (λg=>?_) λg=>?_
  ·obtain rfl:l=(b:Z):=aa;obtain⟨c,rfl⟩:∃c,b=c+1:=⟨b-1,aa⟩;have ar:aD (((c+1:X):Z)-1)=(c:Z):=(by grind [cG]);rw[ar];refine ah.bs (hF aa) (ah.bs (hF aa) ?_);refine ah.bs (y:=(bw (d.getD (c+1) 0<d.getD c 0),())) (by simp_all [aqC,bT,vK,tG]) ?_;dsimp only;rw[de];refine ah.ite (λi=>?_) λi=>?_
   ·grind [bA]
   grind [bA,cw]
  grind [bA]
 grind [amA,bA,amT]
def k7 (e:Z) (d b:amv) (c:X):Prop:=∀a:X,d.getD c 0<=(a:Z)->(a:Z)<d.getD (c+1) 0->(if(a:Z)=d.getD c 0 then-1 else b.getD (a-1) 0)<b.getD a 0/\b.getD a 0<e
theorem k7.pos (h:k7 b d f a) (i:0<=d.getD a 0):∀c:X,d.getD a 0<=(c:Z)->(c:Z)<d.getD (a+1) 0->0<=f.getD c 0:=by
 intro c
 induction c with
 |zero=>
  intro e g;have:=(h 0 e g).1;omega
 |succ c k=>
  intro e g;have j:=(h (c+1) e g).1;grind
theorem k7.rng (h:0<=d.getD a 0):k7 b d f a↔(∀k:X,d.getD a 0<=(k:Z)->(k:Z)<d.getD (a+1) 0->0<=f.getD k 0/\f.getD k 0<b)/\(∀k:X,d.getD a 0<(k:Z)->(k:Z)<d.getD (a+1) 0->f.getD (k-1) 0<f.getD k 0):=by
 constructor
 ·intro g;refine⟨λk c e=>⟨g.pos h k c e,(g k c e).2⟩,λk c e=>?_⟩;have:=(g k aa e).1;omega
 rintro⟨c,e⟩ k i j;refine⟨?_,(c k i j).2⟩;split
 ·grind
 grind
theorem ahe {l:amv} {lo hi t:X} (a:hi<=l.length) (b:lo+t<hi):((l.take hi).drop lo).length=hi-lo/\((l.take hi).drop lo)[t]?=Y (l.getD (lo+t) 0):=by grind
theorem ahf {l:amv} {lo:X} (b:a<=l.length):((l.take a).drop lo).length=a-lo:=by grind
theorem g1.iff:g1 c a d f g↔d.length=a+1/\d.getD 0 0=0/\(∀b,b<a->d.getD b 0<=d.getD (b+1) 0)/\d.getD a 0=(f.length:Z)/\g.length=f.length/\∀b,b<a->k7 (c:Z) d f b:=by
 have o:(∀b,b<a->d.getD b 0<=d.getD (b+1) 0)->d.getD 0 0=0->∀b,b<=a->0<=d.getD b 0:=λr q b=>by
  induction b with
  |zero=>omega
  |succ b s=>grind
 constructor
 ·rintro⟨l,h,i,m,n,k,p⟩;exact⟨l,h,i,m,n,λb j=>(k7.rng (o i h b aa)).2 ⟨λe=>k b e j,λe=>p b e j⟩⟩
 rintro⟨l,h,i,m,n,k⟩;exact⟨l,h,i,m,n,λb e j=>((k7.rng (o i h b aa)).1 (k b j)).1 e,λb e j=>((k7.rng (o i h b aa)).1 (k b j)).2 e⟩
section
open Go.Proofs
def CD:bp (String×DataW bz):=[("math/bits.deBruijn32tab",Lib.tabData .u8 qW)]
def ahI (b:Os) (a:eB):laidMetH ct CD ((World.doorLaid ct 400 b).forCall (λ_ _=>0) ⟨#[],a,[]⟩).memory:=
 laidMetH_of_parts3 (fuel:=8) (laidMet_of_run' 8 (by kernel_rfl) (by kernel_rfl)) (by kernel_rfl) (by kernel_rfl)
def ahH {b:bF} (c:laidMetH ct CD b):lY E (λr=>r<b.heap.size) b:=by
 rw[MakeChecks.laidMetH_plain _ _ _ (by kernel_rfl)] at c;have f:ct.globalNamed "math/bits.deBruijn32tab"=Y 0:=(by kernel_rfl);have j:=Lib.tabIs_of_head (g:=0) (t:=345) (e:=5) (n:=32) f (by kernel_rfl) (by kernel_rfl) (by kernel_rfl) (by kernel_rfl) (by kernel_rfl) c;intro q h;have h:q∈[(⟨0,345,.u8,qW⟩:vr)]:=h;obtain rfl:=gI.1 h;have s:0<b.heap.size:=by
  have d:=j.cell f 0 ab;unfold anR at d;split at d
  ·rename_i x w y v;exact(s7.1 v).1
  cases d
 refine⟨bq,_,_,bq,bf _,(λc=>by cases c),.inr ⟨0,0,bq,s,λa p i=>?_⟩⟩;obtain⟨l,i⟩:=iv.1 i;refine⟨[.int .u8 p],bq,λo z m=>?_,bq,bq⟩;have k:=j.cell f a l;have u:(qW.getD a 0:Z)=p:=(by rw[k1 l];exact i);rw[u] at k;cases o with
 |zero=>
  obtain rfl:=gn m;have:(⟨0,0+a*amW (.int .u8)+0,br⟩:ck)=⟨0,a,br⟩:=(by show(⟨0,0+a*1+0,br⟩:ck)=_;congr 1;omega);rw[this];exact k
 |succ o=>cases m
end
section
theorem Xj (a0:c<=200) (an:a<=200) (H:d.length<=10000) (Q:f.length<=1000000) (a4:g.length<=1000000):Ez (((c:Z),(a:Z),f,d,g,()),())=Y (open Classical in decide (g1 c a f d g),()):=by
 classical
 unfold Ez;refine bR.1 ?_;dsimp only;have O:aT (a:Z)=((a+1:X):Z):=bk aa;have am:∀(j:¬g1 c a f d g),(bu,())=(bw (g1 c a f d g),()):=λj=>(by rw[amT j]);refine ah.aO (P:=λm=>match m with
  |.inl _=>f.length=a+1/\f.getD 0 0=0/\(∀b,b<a->f.getD b 0<=f.getD (b+1) 0)/\f.getD a 0=(d.length:Z)/\g.length=d.length
  |.inr o=>o=(bu,())/\¬g1 c a f d g) ?_ ?_
 ·rw[O,fZ];by_cases A:f.length=a+1
  ·rw[aJ (ae:au f=((a+1:X):Z))];refine ah.bs (y:=f.getD 0 0) (hF (i:=0) aa) ?_;rw[fZ];by_cases q:f.getD 0 0=0
   ·rw[aJ q];refine ah.bs (ahm Q) ?_;dsimp only;by_cases r:∀p,p+1<f.length->f.getD p 0<=f.getD (p+1) 0
    ·rw[amA r];refine ah.bs (y:=f.getD a 0) (hF aa) ?_;rw[fZ];by_cases s:f.getD a 0=(d.length:Z)
     ·rw[aJ (show f.getD a 0=au d from s),fZ];by_cases B:d.length=g.length
      ·grind [bA,aJ,a8]
      rw[aG (ae:¬au d=au g)];exact bA.2 ⟨bq,λj=>B j.val.symm⟩
     rw[aG (show¬f.getD a 0=au d from s)];exact bA.2 ⟨bq,λj=>s j.last⟩
    rw[amT r];exact bA.2 ⟨bq,λj=>r λp H=>j.mono p aa⟩
   rw[aG q];exact bA.2 ⟨bq,λj=>q j.first⟩
  rw[aG (ae:¬au f=((a+1:X):Z))];exact bA.2 ⟨bq,λj=>A j.len⟩
 rintro(m|m) w
 rotate_left
 ·grind [bA]
 obtain⟨A,q,r,s,B⟩:f.length=a+1/\f.getD 0 0=0/\(∀b,b<a->f.getD b 0<=f.getD (b+1) 0)/\f.getD a 0=(d.length:Z)/\g.length=d.length:=w;have F:∀b,b<=a->0<=f.getD b 0:=λb=>by
  induction b with
  |zero=>omega
  |succ b R=>grind
 have w:∀u b,b+u=a->f.getD b 0<=(d.length:Z):=λu=>by
  induction u with
  |zero|succ u R=>grind
 dsimp only;refine ah.aO (P:=λm=>match m with
  |.inl _=>(∀b,b<a->k7 (c:Z) f d b)
  |.inr o=>o=(bu,())/\¬(∀b,b<a->k7 (c:Z) f d b)) ?_ ?_
 ·refine ah.steps a (λp x=>x=((p:Z),())/\∀b,b<p->k7 (c:Z) f d b) ⟨bq,λb L=>by omega⟩ ?_ ?_
  ·rintro b _ L ⟨rfl,C⟩;dsimp only;rw[a5 (aJ (aa:(b:Z)<(a:Z))),bk aa];obtain⟨e,N⟩:=cD (F b aa);obtain⟨n,K⟩:=cD (F (b+1) aa);have E:n<=d.length:=(by have:=w (a-(b+1)) (b+1) aa;omega);have av:e<=n:=ae;refine ah.bs (y:=(e:Z)) (by rw[hF aa,N]) (ah.bs (y:=(n:Z)) (by rw[hF aa,K]) (ah.bs (y:=(e,n)) (by grind [yV,yG]) ?_));dsimp only;have ap:=ahf (l:=d) (lo:=e) E;refine ah.aO (P:=λm=>match m with
    |.inl _=>k7 (c:Z) f d b
    |.inr o=>o=.inr (.inr (bu,()))/\¬k7 (c:Z) f d b) ?_ ?_
   ·refine ah.steps (n-e) (λh x=>x=((if h=0 then-1 else d.getD (e+h-1) 0),(h:Z),())/\∀k:X,e<=k->k<e+h->(if(k:Z)=f.getD b 0 then-1 else d.getD (k-1) 0)<d.getD k 0/\d.getD k 0<(c:Z)) ⟨bq,λk C D=>by omega⟩ ?_ ?_
    ·rintro h _ a3 ⟨rfl,D⟩;have J:=(ahe (l:=d) (lo:=e) (hi:=n) (t:=h) E aa).2;have M:(if h=0 then-1 else d.getD (e+h-1) 0)=(if((e+h:X):Z)=f.getD b 0 then-1 else d.getD (e+h-1) 0):=by
      omega
     dsimp only;rw[a5 (aJ (ae:(h:Z)<au ((d.take n).drop e))),M];refine ah.aO (P:=λm=>match m with
      |.inl o=>o=(d.getD (e+h) 0,())/\((if((e+h:X):Z)=f.getD b 0 then-1 else d.getD (e+h-1) 0)<d.getD (e+h) 0/\d.getD (e+h) 0<(c:Z))
      |.inr o=>o=.inr (.inr (.inr (.inr (bu,()))))/\¬((if((e+h:X):Z)=f.getD b 0 then-1 else d.getD (e+h-1) 0)<d.getD (e+h) 0/\d.getD (e+h) 0<(c:Z))) ?_ ?_
     ·refine ah.bs (y:=d.getD (e+h) 0) (gj J) ?_;generalize(if((e+h:X):Z)=f.getD b 0 then-1 else d.getD (e+h-1) 0)=V;generalize d.getD (e+h) 0=z;by_cases I:z<=V
      ·grind [bA,aJ]
      rw[aG I];by_cases ad:z>=(c:Z)
      ·grind [bA,aJ]
      grind [aG,bA]
     rintro(m|m) G
     ·obtain⟨rfl,v⟩:=G;refine bA.2 ⟨?_,?_⟩
      ·rw[bk aa,aw aa];rfl
      intro k S T;rcases c6 k (e+h) with U|U
      ·grind
      obtain rfl:k=e+h:=aa;exact v
     obtain⟨rfl,v⟩:=G;refine bA.2 ⟨bq,λj=>v ?_⟩;exact j (e+h) aa aa
    rintro _ ⟨rfl,D⟩;dsimp only;rw[a2 (aG (ae:¬(((n-e:X):Z)<au ((d.take n).drop e))))];refine bA.2 ?_;intro k S T;simp_all
   grind [bA,cw]
  rintro _ ⟨rfl,C⟩;simp_all [bA,a2,aG]
 grind [bA,amA,g1.iff]
def oO (b:amv):Prop:=∀a,a<b.length->bo (b.getD a 0)≠2047
open Classical in
def hZ (d b:X) (e c a:amv):Z:=if g1 d b e c a then if oO a then 0 else 4 else 1
theorem H5.getD {a:amv} (e:∀d∈a,fM d) (c:X):fM (a.getD c 0):=by
 rcases c6 c a.length with b|b
 ·grind
 rw[q7 b];exact⟨ab,ab⟩
theorem abg (j:∀m∈d,fM m) (o:d.length<=1000000):EC (d,(),())=Y (open Classical in decide (¬oO d),()):=by
 classical
 unfold EC;refine bR.1 ?_;refine ah.aO (P:=λc=>∃e,c=(e,())/\(0<=e↔¬oO d)) ?_ ?_
 ·unfold I5;dsimp only;refine ah.aO (P:=λk=>match k with|.inl _=>oO d|.inr c=>0<=c.1/\¬oO d) ?_ ?_
  ·refine ah.steps d.length (λa l=>l=((a:Z),())/\∀b,b<a->bo (d.getD b 0)≠2047) ⟨bq,λb n=>by omega⟩ ?_ ?_
   ·rintro a _ h ⟨rfl,g⟩;dsimp only;rw[a5 (aJ (ae:(a:Z)<au d))];refine ah.bs (hF h) ?_;unfold I3;refine ah.bs (y:=(bw (bo (d.getD a 0)=2047),())) (aq (BC (H5.getD j a)) ae) ?_;dsimp only;rw[de];refine ah.ite (λf=>?_) λf=>?_
    ·exact bA.2 ⟨aa,λi=>i a h f⟩
    grind [bA,bk,cw]
   rintro _ ⟨rfl,g⟩;dsimp only;rw[a2 (aG (ae:¬((d.length:Z)<au d)))];exact bA.2 g
  grind [bA]
 rintro _ ⟨e,rfl,p⟩;refine bA.2 ?_;grind
theorem aaz (j:c<=200) (h:a<=200) (i:f.length<=10000) (k:g.length<=1000000) (e:d.length<=1000000) (l:∀m∈d,fM m):sh (((c:Z),(a:Z),g,f,d,()),())=Y (hZ c a g f d,()):=by
 classical
 unfold sh hZ;dsimp only;refine aq (y:=(bu,())) ?_ ?_
 ·unfold EB;grind
 dsimp only;rw[bQ];refine aq (Xj j h i k e) ?_;dsimp only;by_cases b:g1 c a g f d
 ·rw[amA b,ay b];refine aq (abg l e) ?_;grind
 grind
end
theorem agn (h:∀l∈d,fM l) (n:d.length<=1000000):E9 (d,())=Y (open Classical in decide (oO d),()):=by
 classical
 unfold E9;refine bR.1 ?_;dsimp only;refine ah.aO (P:=λi=>match i with|.inl _=>oO d|.inr j=>j=(bu,())/\¬oO d) ?_ ?_
 ·refine ah.steps d.length (λa k=>k=((a:Z),())/\∀b,b<a->bo (d.getD b 0)≠2047) ⟨bq,λb m=>by omega⟩ ?_ ?_
  ·rintro a _ f ⟨rfl,e⟩;dsimp only;rw[a5 (aJ (ae:(a:Z)<au d))];refine ah.bs (hF f) (ah.bs (Tf (H5.getD h a)) ?_);dsimp only;rw[Bool.not_not,de];refine ah.ite (λc=>?_) λc=>?_
   ·exact bA.2 ⟨bq,λg=>g a f c⟩
   grind [bA,bk,cw]
  rintro _ ⟨rfl,e⟩;dsimp only;rw[a2 (aG (ae:¬((d.length:Z)<au d)))];exact bA.2 e
 grind [amA,bA,amT]
theorem af4 (bl:c<=200) (an:a<=200) (ap:f.length<=10000) (bx:d.length<=1000000) (R:g.length<=1000000) (S:∀ad∈g,fM ad):vS (((c:Z),(a:Z),d,f,g,()),())=Y (hZ c a d f g,()):=by
 classical
 unfold vS;refine bR.1 ?_;dsimp only;have Q:aT (a:Z)=((a+1:X):Z):=bk aa;have am:∀(l:¬g1 c a d f g),((1:Z),())=(hZ c a d f g,()):=λl=>(by unfold hZ;grind);refine ah.bs (y:=.inl ()) ?_ ?_
 ·grind
 dsimp only;refine ah.aO (P:=λk=>match k with
  |.inl _=>d.length=a+1/\d.getD 0 0=0/\d.getD a 0=(f.length:Z)/\g.length=f.length
  |.inr m=>m=((1:Z),())/\¬g1 c a d f g) ?_ ?_
 ·rw[Q,fZ,fZ];by_cases B:g.length=f.length
  ·rw[aJ (ae:au g=au f)];by_cases A:d.length=a+1
   ·rw[aJ (ae:au d=((a+1:X):Z))];refine ah.bs (y:=d.getD 0 0) (hF (i:=0) aa) ?_;rw[fZ];by_cases q:d.getD 0 0=0
    ·rw[aJ q];refine ah.bs (y:=d.getD a 0) (hF aa) ?_;rw[fZ];by_cases u:d.getD a 0=(f.length:Z)
     ·grind [bA,aJ]
     rw[aG (show¬d.getD a 0=au f from u)];exact bA.2 ⟨bq,λl=>u l.last⟩
    rw[aG q];exact bA.2 ⟨bq,λl=>q l.first⟩
   rw[aG (ae:¬au d=((a+1:X):Z))];exact bA.2 ⟨bq,λl=>A l.len⟩
  rw[aG (ae:¬au g=au f)];exact bA.2 ⟨bq,λl=>B l.val⟩
 rintro(k|k) r
 rotate_left
 ·grind [bA]
 obtain⟨A,q,u,B⟩:d.length=a+1/\d.getD 0 0=0/\d.getD a 0=(f.length:Z)/\g.length=f.length:=r;dsimp only;refine ah.aO (P:=λk=>match k with
  |.inl _=>(∀b,b<a->d.getD b 0<=d.getD (b+1) 0)
  |.inr m=>m=((1:Z),())/\¬g1 c a d f g) ?_ ?_
 ·refine ah.steps a (λp t=>t=((p:Z),())/\∀b,b<p->d.getD b 0<=d.getD (b+1) 0) ⟨bq,λb z=>by omega⟩ ?_ ?_
  ·rintro b _ z ⟨rfl,x⟩;dsimp only;rw[a5 (aJ (aa:(b:Z)<(a:Z))),bk aa];refine ah.bs (hF aa) (ah.bs (hF aa) ?_);rw[de];refine ah.ite (λw=>?_) λw=>?_
   ·exact bA.2 ⟨bq,λl=>by have:=l.mono b z;omega⟩
   grind [bA,cw]
  rintro _ ⟨rfl,x⟩;simp_all [bA,a2,aG]
 rintro(k|k) r
 rotate_left
 ·grind [bA]
 have M:∀b,b<a->d.getD b 0<=d.getD (b+1) 0:=r;have J:∀b,b<=a->0<=d.getD b 0:=λb=>by
  induction b with
  |zero=>omega
  |succ b K=>grind
 have r:∀v b,b+v=a->d.getD b 0<=(f.length:Z):=λv=>by
  induction v with
  |zero|succ v K=>grind
 dsimp only;refine ah.aO (P:=λk=>match k with
  |.inl _=>(∀b,b<a->k7 (c:Z) d f b)
  |.inr m=>m=((1:Z),())/\¬(∀b,b<a->k7 (c:Z) d f b)) ?_ ?_
 ·refine ah.steps a (λp t=>t=((p:Z),())/\∀b,b<p->k7 (c:Z) d f b) ⟨bq,λb z=>by omega⟩ ?_ ?_
  ·rintro b _ z ⟨rfl,x⟩;dsimp only;rw[a5 (aJ (aa:(b:Z)<(a:Z))),bk aa];obtain⟨e,a3⟩:=cD (J b aa);obtain⟨o,O⟩:=cD (J (b+1) aa);have av:o<=f.length:=(by have:=r (a-(b+1)) (b+1) aa;omega);have a0:e<=o:=ae;have G:az d (b:Z)=Y (e:Z):=(by grind [hF]);have H:az d ((b+1:X):Z)=Y (o:Z):=(by rw[hF aa,O]);refine ah.bs G ?_;refine ah.aO (P:=λk=>match k with
    |.inl _=>k7 (c:Z) d f b
    |.inr m=>m=.inr (.inr ((1:Z),()))/\¬k7 (c:Z) d f b) ?_ ?_
   ·refine ah.steps (o-e) (λh t=>t=(((e+h:X):Z),())/\∀j:X,e<=j->j<e+h->(if(j:Z)=d.getD b 0 then-1 else f.getD (j-1) 0)<f.getD j 0/\f.getD j 0<(c:Z)) ⟨bq,λj x n=>by omega⟩ ?_ ?_
    ·rintro h _ ce ⟨rfl,n⟩;dsimp only;refine ah.bs H ?_;rw[a5 (aJ (aa:((e+h:X):Z)<(o:Z)))];have C:az f ((e+h:X):Z)=Y (f.getD (e+h) 0):=hF aa;have a4:h≠0->0<=f.getD (e+h-1) 0:=λV=>by
      have U:∀j:X,e<=j->j<e+h->0<=f.getD j 0:=by
       intro j
       induction j with
       |zero=>
        grind
       |succ j K=>
        intro D E;have I:=(n (j+1) D E).1;by_cases w:((j+1:X):Z)=d.getD b 0
        ·omega
        grind
      exact U _ aa aa
     refine ah.aO (P:=λk=>match k with
      |.inl _=>((if((e+h:X):Z)=d.getD b 0 then-1 else f.getD (e+h-1) 0)<f.getD (e+h) 0/\f.getD (e+h) 0<(c:Z))
      |.inr m=>m=.inr (.inr (.inr (.inr ((1:Z),()))))/\¬((if((e+h:X):Z)=d.getD b 0 then-1 else f.getD (e+h-1) 0)<f.getD (e+h) 0/\f.getD (e+h) 0<(c:Z))) ?_ ?_
     ·refine ah.bs C ?_;by_cases F:f.getD (e+h) 0<0
      ·rw[aJ F];refine bA.2 ⟨bq,λl=>?_⟩;omega
      rw[aG F];refine ah.bs C ?_;by_cases L:f.getD (e+h) 0>=(c:Z)
      ·grind [bA,aJ]
      rw[aG L];refine ah.bs G ?_;by_cases V:h=0
      ·rw[aG (aa:¬((e+h:X):Z)>(e:Z))];refine bA.2 ⟨?_,aa⟩;omega
      rw[aJ (aa:((e+h:X):Z)>(e:Z))];have ar:aD (((e+h:X):Z)-1)=((e+h-1:X):Z):=(by rw[cG aa aa];omega);refine ah.bs C (ah.bs (y:=f.getD (e+h-1) 0) (by rw[ar];exact hF aa) ?_);rw[de];refine ah.ite (λw=>?_) λw=>?_
      ·refine bA.2 ⟨bq,λl=>?_⟩;omega
      refine bA.2 ⟨?_,aa⟩;omega
     rintro(k|k) s
     ·refine bA.2 ⟨by rw[bk aa];rfl,?_⟩;intro j D E;rcases c6 j (e+h) with T|T
      ·grind
      obtain rfl:j=e+h:=aa;omega
     obtain⟨rfl,I⟩:=s;exact bA.2 ⟨bq,λl=>I (l (e+h) aa aa)⟩
    rintro _ ⟨rfl,n⟩;dsimp only;refine ah.bs H ?_;rw[a2 (aG (aa:¬(((e+(o-e):X):Z)<(o:Z))))];refine bA.2 ?_;intro j D E;simp_all
   grind [bA,cw]
  rintro _ ⟨rfl,x⟩;simp_all [bA,a2,aG]
 rintro(k|k) s
 ·have s:(∀b,b<a->k7 (c:Z) d f b):=s;have N:g1 c a d f g:=g1.iff.2 ⟨A,q,M,u,B,s⟩;refine ah.bs (agn S R) ?_;unfold hZ;rw[ay N];by_cases n:oO g
  ·rw[amA n,ay n];grind [bA]
  rw[amT n,aw n];grind [bA]
 grind [bA,g1.iff]
abbrev c4:=Z×Z×Z×bz
variable{t:bp c4}
def hI (b d:amv) (c:Z) (a:X):X->bp c4
 |0=>[]
 |n+1=>hI b d c a n++[(b.getD (a+n) 0,c,d.getD (a+n) 0,())]
def c5 (a b c:amv):X->bp c4
 |0=>[]
 |j+1=>c5 a b c j++hI b c (j:Z) (a.getD j 0).toNat ((a.getD (j+1) 0).toNat-(a.getD j 0).toNat)
theorem Pk (c f:amv) (d:Z) (e a:X):(hI c f d e a).length=a:=by
 induction a with
 |zero=>rfl
 |succ a b=>simp[hI,b]
def g1.pos (e:g1 c a d f g):∀b,b<=a->0<=d.getD b 0:=λb=>by
 have:=e.first
 induction b with
 |zero=>omega
 |succ b h=>intro i;have:=h aa;have:=e.mono b aa;omega
theorem g1.sx (h:g1 c a f d g):∀b,b<=a->f.getD b 0<=(d.length:Z):=by
 have k:∀e b,b+e=a->f.getD b 0<=(d.length:Z):=λe=>by
  have:=h.last
  induction e with
  |zero=>grind
  |succ e j=>intro b i;have:=j (b+1) aa;have:=h.mono b aa;omega
 exactλb i=>k (a-b) b aa
theorem Bn (e:g1 c a d f g):∀b,b<=a->(c5 d f g b).length=(d.getD b 0).toNat:=λb=>by
 induction b with
 |zero=>intro _;have:=e.first;show 0=(d.getD 0 0).toNat;omega
 |succ b h=>
  intro k;have i:=h aa;have j:=e.mono b aa;grind [amX,Pk,c5]
theorem JB (e:g1 c a g d f) (p:a<=200) (r:d.length<=10000):x7 (((c:Z),(a:Z),g,d,f,()),())=Y (c5 g d f a,()):=by
 unfold x7;refine bR.1 ?_;dsimp only;refine ah.aO (P:=λk=>k=(c5 g d f a,())) ?_ (by grind [bA]);refine ah.steps a (λb l=>l=((b:Z),c5 g d f b,())) rfl ?_ ?_
 ·rintro b _ n rfl;have s:=e.len;obtain⟨i,o⟩:=cD (e.pos b aa);obtain⟨h,m⟩:=cD (e.pos (b+1) aa);have t:h<=d.length:=(by have:=e.sx (b+1) aa;omega);have u:i<=h:=(by have:=e.mono b n;omega);have q:=Bn e b aa;have w:=e.val;dsimp only;rw[a5 (aJ (aa:(b:Z)<(a:Z))),bk aa];refine ah.bs (y:=(i:Z)) (by rw[hF aa,o]) ?_;refine ah.aO (P:=λk=>k=(c5 g d f (b+1),())) ?_ (by grind [bA]);refine ah.steps (h-i) (λj l=>l=(((i+j:X):Z),c5 g d f b++hI d f (b:Z) i j,())) (by simp[hI]) ?_ ?_
  ·rintro j _ v rfl;dsimp only;refine ah.bs (y:=(h:Z)) (by rw[hF aa,m]) ?_;rw[a5 (aJ (aa:((i+j:X):Z)<(h:Z)))];refine ah.bs (hF aa) (ah.bs (hF aa) ?_);rw[fe (by grind [Pk])];refine bA.2 ?_;rw[bk aa,aoo];rfl
  rintro _ rfl;dsimp only;refine ah.bs (y:=(h:Z)) (by rw[hF aa,m]) ?_;simp_all [bA,a2,aG,c5,hI]
 rintro _ rfl;dsimp only;rw[a2 (aG (aa:¬((a:Z)<(a:Z))))];grind [bA]
structure j7 (rows e0:X) (st jb n0:amv):Prop where
 hr:rows<=200
 hc:e0<=200
 hi:jb.length<=10000
 hs:st.length<=1000000
 hv:n0.length<=1000000
 hw:∀v∈n0,fM v
def j7.check (b:j7 c a f d g):sh (((c:Z),(a:Z),f,d,g,()),())=Y (hZ c a f d g,()):=aaz b.hr b.hc b.hi b.hs b.hv b.hw
def j7.GN (b:j7 c a f d g):vS (((c:Z),(a:Z),f,d,g,()),())=Y (hZ c a f d g,()):=af4 b.hr b.hc b.hi b.hs b.hv b.hw
theorem lF:hZ c a g f d=0↔g1 c a g f d/\oO d:=by unfold hZ;grind
def Vb (b:j7 c a f d g) (e:hZ c a f d g=0):Ew (((c:Z),(a:Z),f,d,g,()),())=Y (c5 f d g a,()):=by unfold Ew;refine aq b.check ?_;dsimp only;rw[e,fZ,aJ bq];exact aq (JB (lF.1 e).1 b.hc b.hi) rfl
theorem SZ (b:j7 c a f d g) (i:hZ c a f d g=0):A9 (((c:Z),(a:Z),f,d,g,()),())=Y (c5 f d g a,()):=by have e:=(lF.1 i).1;have h:=JB e b.hc b.hi;unfold x7 at h;unfold A9;refine aq b.GN ?_;grind
def hj (a b:c4):Prop:=a.2.1<b.2.1\/(a.2.1=b.2.1/\a.1<b.1)
def BR {i:c4}:i∈hI d f b c a↔∃e,e<a/\i=(d.getD (c+e) 0,b,f.getD (c+e) 0,()):=by
 induction a with
 |zero=>simp[hI]
 |succ a l=>
  simp only[hI,hl,l,gI];constructor
  ·rintro(⟨e,k,g⟩|j)
   ·exact⟨e,aa,g⟩
   exact⟨a,aa,j⟩
  rintro⟨e,k,g⟩;rcases c6 e a with h|h
  ·exact .inl ⟨e,h,g⟩
  obtain rfl:e=a:=aa;exact .inr g
def X6 (h:∀g e,g<e->e<a->d.getD (c+g) 0<d.getD (c+e) 0):(hI d f b c a).Pairwise hj:=by
 induction a with
 |zero=>exact aoy
 |succ a m=>
  refine arN.2 ⟨m λg e i p=>h g e i aa,List.pairwise_singleton _ _,?_⟩;intro n j o k;obtain⟨e,l,rfl⟩:=BR.1 j;rw[gI.1 k];exact .inr ⟨bq,h e a l aa⟩
def KR {h:c4}:h∈c5 d f g a↔∃b,b<a/\h∈hI f g (b:Z) (d.getD b 0).toNat ((d.getD (b+1) 0).toNat-(d.getD b 0).toNat):=by
 induction a with
 |zero=>simp[c5]
 |succ a k=>
  simp only[c5,hl,k];constructor
  ·rintro(⟨b,j,c⟩|i)
   ·exact⟨b,aa,c⟩
   exact⟨a,aa,i⟩
  rintro⟨b,j,c⟩;rcases c6 b a with e|e
  ·exact .inl ⟨b,e,c⟩
  obtain rfl:b=a:=aa;exact .inr c
def tZ (k:g1 c a d f g):∀b,b<=a->(c5 d f g b).Pairwise hj:=by
 intro b
 induction b with
 |zero=>intro _;exact aoy
 |succ b q=>
  intro p;have C:=k.pos b aa;have D:=k.pos (b+1) p;refine arN.2 ⟨q aa,X6 ?_,?_⟩
  ·intro h i v w;have s:∀e,h+e<(d.getD (b+1) 0).toNat-(d.getD b 0).toNat->0<e->f.getD ((d.getD b 0).toNat+h) 0<f.getD ((d.getD b 0).toNat+(h+e)) 0:=by
    intro e
    induction e with
    |zero=>intro _ y;omega
    |succ e r=>
     intro x _;have m:=k.asc b ((d.getD b 0).toNat+(h+(e+1))) aa aa aa;rw[(aa:(d.getD b 0).toNat+(h+(e+1))-1=(d.getD b 0).toNat+(h+e))] at m;rcases rX e with j|j
     ·subst j;exact m
     have:=r aa j;omega
   have:=s (i-h) aa aa;rwa[(aa:h+(i-h)=i)] at this
  intro t l u o;obtain⟨n,z,l⟩:=KR.1 l;obtain⟨i,A,rfl⟩:=BR.1 l;obtain⟨E,B,rfl⟩:=BR.1 o;exact .inl (by show(n:Z)<(b:Z);omega)
def aea (a b:Z):DE ([a,b],())=Y (if a≠0 then a else b,()):=by
 unfold DE;refine bR.1 ?_;dsimp only;refine ah.aO (P:=λf=>match f with|.inl _=>a=0/\b=0|.inr k=>k=(if a≠0 then a else b,())) ?_ ?_
 ·refine ah.steps 2 (λd l=>l=((d:Z),())/\(1<=d->a=0)/\(2<=d->b=0)) ⟨bq,λh=>by omega,λh=>by omega⟩ ?_ ?_
  ·rintro d _ m ⟨rfl,g,i⟩;rcases(aa:d=0\/d=1) with rfl|rfl
   ·show ah (bif a !=0 then _ else _) _;rw[fZ];by_cases c:a=0
    ·rw[aJ c];exact bA.2 ⟨bq,λ_=>c,λh=>by omega⟩
    rw[aG c];refine bA.2 ?_;rw[ay c]
   show ah (bif b !=0 then _ else _) _;have j:=g ab;rw[fZ];by_cases c:b=0
   ·rw[aJ c];exact bA.2 ⟨bq,λ_=>j,λ_=>c⟩
   rw[aG c];refine bA.2 ?_;rw[aw (by simpa using j)]
  rintro _ ⟨rfl,g,i⟩;exact bA.2 ⟨g ab,i ab⟩
 rintro(f|f) e
 ·obtain⟨rfl,rfl⟩:a=0/\b=0:=e;exact bA.2 bq
 have e:f=_:=e;rw[e];exact bA.2 bq
def Pa {a b:c4} (c:hj a b):x8 (b,a,())=Y (1,()):=by
 unfold x8;refine aq (DA _ _) (aq (DA _ _) (aq (aea _ _) ?_));dsimp only;congr 2;unfold gh;rcases c with c|⟨e,d⟩
 ·rw[aw (aa:¬b.2.1<a.2.1),ay c];rfl
 rw[aw (aa:¬b.2.1<a.2.1),aw (aa:¬a.2.1<b.2.1),aw ac,aw (aa:¬b.1<a.1),ay d]
def Kh (i:t.length<=1000) (e:t.Pairwise hj) {lo hi:X} (f:lo<=hi) (g:hi<=t.length):AX (t,(lo:Z),(hi:Z),(),())=Y (t,()):=by
 unfold AX;refine bR.1 ?_;dsimp only;refine ah.aO (P:=λc=>c=(t,())) ?_ (by rintro _ rfl;exact bA.2 bq);refine ah.steps (hi-lo-1) (λa b=>b=(((lo+1+a:X):Z),t,())) (by rw[bk aa]) ?_ ?_
 ·rintro a _ h rfl;dsimp only;rw[a5 (aJ (aa:((lo+1+a:X):Z)<(hi:Z)))];refine ah.aO (P:=λc=>c=(t,())) ?_ (by rintro _ rfl;refine bA.2 ?_;dsimp only;rw[bk aa];rfl);refine ah.steps 0 (λ_ b=>b=(((lo+1+a:X):Z),t,())) rfl (λa b hi=>by omega) ?_;rintro _ rfl;dsimp only;refine ah.bs (y:=.inr (.inr (t,()))) ?_ (bA.2 bq);rw[aJ (aa:((lo+1+a:X):Z)>(lo:Z))];have ar:aD (((lo+1+a:X):Z)-1)=((lo+a:X):Z):=(by rw[cG aa aa];omega);rw[am2,bI,ky aa,ar,ky aa];have d:hj t[lo+a] t[lo+1+a]:=amx.1 e _ _ aa aa aa;exact aq (Pa d) rfl
 rintro _ rfl;dsimp only;rw[a2 (aG (aa:¬((lo+1+(hi-lo-1):X):Z)<(hi:Z)))];exact bA.2 bq
def ahB (u:t.length=21) (m:t.Pairwise hj):EQ (t,0,20,21,(),())=Y (t,()):=by
 unfold EQ;refine bR.1 ?_;dsimp only;rw[a2 ab,a5 ab];refine ah.aO (P:=λh=>h=(20,t,())) ?_ ?_
 ·refine ah.steps 4 (λd g=>g=((([0,11,16,19,20]:amu).getD d 0:Z),20,t,())) rfl ?_ ?_
  ·rintro d _ v rfl;have f:∀c a:X,c<20->a<20->e8 bG (aS (aD ((c:Z)+20))) 1=Y (a:Z)->aD (a:Z)=(a:Z)->aT (a:Z)=((a+1:X):Z)->
    ah (
     bif bw ((c:Z)<20) then(e8 bG (aS (aD ((c:Z)+20))) 1).bind λi=>
     rd t 20 λo=>rd t (aD i) λp=>(x8 (o,p,())).bind λ(n,_)=>
      (bif !(bw (n<0)) then Y (.inl (aT (aD i),20,t,())) else br) else Y (.inr ((c:Z),t,())))
     (λe=>e=Sum.inl (((a+1:X):Z),(20:Z),t,())):=by
    intro c a q r j k l;rw[a5 (aJ aa),j,bT,k,show(20:Z)=((20:X):Z) from rfl,ky aa,ky aa];refine ah.bs (Pa (amx.1 m _ _ aa aa aa)) ?_;dsimp only;rw[a5 ab,l];exact bA.2 bq
   rcases(by omega:d=0\/d=1\/d=2\/d=3) with rfl|rfl|rfl|rfl
   ·exact(f 0 10 ab ab ab ab ab).mono λe b=>by rw[b];rfl
   ·exact(f 11 15 ab ab ab ab ab).mono λe b=>by rw[b];rfl
   ·exact(f 16 18 ab ab ab ab ab).mono λe b=>by rw[b];rfl
   exact(f 19 19 ab ab ab ab ab).mono λe b=>by rw[b];rfl
  rintro _ rfl;exact bA.2 bq
 rintro _ rfl;dsimp only;refine ah.aO (P:=λh=>h=(t,())) ?_ (by rintro _ rfl;exact bA.2 bq);refine ah.steps 0 (λ_ g=>g=(20,t,())) rfl (λw g s=>by omega) ?_;rintro _ rfl;exact bA.2 bq
def ahi (k:t.length<=21) (d:t.Pairwise hj):EA (t,())=Y (t,()):=by
 unfold EA;refine aq (y:=(t,())) ?_ ?_
 ·show((c3 (([]:bp c4).length+t.length)).bind λ_=>Y (([]++t:bp c4),()))=Y (t,());rw[fe (by simp;omega)];rfl
 refine aq (y:=(t,())) ?_ bq;unfold Ja;refine aq (y:=(t,())) ?_ bq;unfold Jc;refine bR.1 ?_;dsimp only;by_cases i:t.length<20
 ·refine ah.aO (P:=λb=>b=(0,t,())) ?_ ?_
  ·refine ah.steps 0 (λ_ a=>a=(0,20,t,())) rfl (λf a e=>by omega) ?_;rintro _ rfl;dsimp only;rw[a2 (aG (show¬((20:Z)<=au t) by simp only[a8];omega))];exact bA.2 bq
  rintro _ rfl;refine ah.bs (Kh (lo:=0) aa d (Nat.zero_le _) (cj _)) ?_;refine ah.aO (P:=λb=>b=(t,())) ?_ (by rintro _ rfl;exact bA.2 bq);refine ah.steps 0 (λ_ a=>a=(20,t,())) rfl (λf a e=>by omega) ?_;rintro _ rfl;dsimp only;rw[a2 (aG (show¬((20:Z)<au t) by simp only[a8];omega))];exact bA.2 bq
 refine ah.aO (P:=λb=>b=(20,t,())) ?_ ?_
 ·refine ah.steps 1 (λc a=>a=((20*(c:Z)),20+20*(c:Z),t,())) rfl ?_ ?_
  ·rintro c _ h rfl;obtain rfl:c=0:=aa;dsimp only;rw[a5 (aJ (show(20:Z)+20*((0:X):Z)<=au t by simp only[a8];omega))];refine ah.bs (Kh (lo:=0) (hi:=20) aa d (Nat.zero_le _) aa) ?_;exact bA.2 bq
  rintro _ rfl;dsimp only;rw[a2 (aG (show¬((20:Z)+20*((1:X):Z)<=au t) by simp only[a8];omega))];exact bA.2 bq
 rintro _ rfl;refine ah.bs (Kh (lo:=20) aa d aa (bf _)) ?_;refine ah.aO (P:=λb=>b=(t,())) ?_ (by rintro _ rfl;exact bA.2 bq);by_cases j:t.length=20
 ·refine ah.steps 0 (λ_ a=>a=(20,t,())) rfl (λf a e=>by omega) ?_;rintro _ rfl;dsimp only;rw[a2 (aG (show¬((20:Z)<au t) by simp only[a8];omega))];exact bA.2 bq
 refine ah.steps 1 (λc a=>a=(20+20*(c:Z),t,())) rfl ?_ ?_
 ·rintro c _ h rfl;obtain rfl:c=0:=aa;dsimp only;rw[a5 (aJ (show(20:Z)+20*((0:X):Z)<au t by simp only[a8];omega))];refine ah.aO (P:=λb=>b=(0,t,())) ?_ ?_
  ·refine ah.steps 0 (λ_ a=>a=(0,40,t,())) rfl (λf a e=>by omega) ?_;rintro _ rfl;dsimp only;rw[a2 (aG (show¬((40:Z)<=au t) by simp only[a8];omega))];exact bA.2 bq
  rintro _ rfl;refine ah.bs (y:=(t,())) ?_ (bA.2 bq);dsimp only;have g:au t=21:=(by rw[a8];omega);rw[g,a5 (aJ (ab:aD (0+(20+20*((0:X):Z)))<21))];exact aq (ahB aa d) rfl
 rintro _ rfl;dsimp only;rw[a2 (aG (show¬((20:Z)+20*((1:X):Z)<au t) by simp only[a8];omega))];exact bA.2 bq
def j9 (E:bp c4) (a:Z):X:=(E.filter λb=>bw (b.2.1=a)).length
def hn (E:bp c4) (a:Z):X:=(E.filter λb=>bw (b.2.1<a)).length
def sB (d b:X) (E:bp c4):gq:=((d:Z),(b:Z),aA (b+1) (λc=>(hn E (c:Z):Z)),E.map (λa=>a.1),E.map (λa=>a.2.2.1),())
theorem II (E:bp c4) (a:Z):hn E (a+1)=hn E a+j9 E a:=by
 unfold hn j9
 induction E with
 |nil=>rfl
 |cons b E d=>
  simp only[nD];rcases Int.lt_trichotomy b.2.1 a with c|c|c
  ·rw[ay (by simpa using(by omega:b.2.1<a+1)),ay (by simpa using c),aw (by simpa using(by omega:¬b.2.1=a))];simp only[iK];omega
  ·rw[ay (by simpa using(by omega:b.2.1<a+1)),aw (by simpa using(by omega:¬b.2.1<a)),ay (by simpa using c)];simp only[iK];omega
  rw[aw (by simpa using(by omega:¬b.2.1<a+1)),aw (by simpa using(by omega:¬b.2.1<a)),aw (by simpa using(by omega:¬b.2.1=a))];omega
def lZ (c b:X) (E:bp c4):Prop:=∀a∈E,0<=a.1/\a.1<(c:Z)/\0<=a.2.1/\a.2.1<(b:Z)
def OD (E:bp c4) (c:c4) (a:Z):j9 (E++[c]) a=j9 E a+if c.2.1=a then 1 else 0:=by
 unfold j9;rw[qw,hM];congr 1;by_cases b:c.2.1=a
 ·rw[ay b,HL (by simpa using b)];rfl
 rw[aw b,HK (by simpa using b)];rfl
def WI {E:bp c4} (C:c<=200) (B:a<=200) (n:E.length<=21) (y:E.Pairwise hj) (t:lZ c a E):Ey ((c:Z),(a:Z),E,())=Y (sB c a E,()):=by
 unfold Ey;refine bR.1 ?_;dsimp only;rw[bk aa];refine ah.bs (jq aa) (ah.bs (ahi n y) ?_);dsimp only;refine ah.aO (P:=λr=>r=(((0:Z),((0:Z),([],([],([],()))))),((c:Z),(a:Z),aA (a+1) (λb=>if b=0 then(0:Z) else(j9 E ((b:Z)-1):Z)),E.map (λe=>e.1),E.map (λe=>e.2.2.1),()),())) ?_ ?_
 ·refine ah.steps E.length (λd s=>s=((d:Z),((0:Z),((0:Z),([],([],([],()))))),((c:Z),(a:Z),aA (a+1) (λb=>if b=0 then(0:Z) else(j9 (E.take d) ((b:Z)-1):Z)),(E.take d).map (λe=>e.1),(E.take d).map (λe=>e.2.2.1),()),E,())) ?_ ?_ ?_
  ·have j:(aA (a+1) λ_=>(0:Z))=aA (a+1) λb=>if b=0 then(0:Z) else(j9 (E.take 0) ((b:Z)-1):Z):=db λb l=>by split<;>rfl
   rw[jV,j];rfl
  ·rintro d _ k rfl;have q:=t E[d] (ca k);obtain⟨i,w⟩:=cD q.2.2.1;dsimp only;rw[a5 (aJ (show(d:Z)<au E by simp only[a8];omega)),ky k];have ar:aT E[d].2.1=((i+1:X):Z):=(by rw[w,bk aa]);have p:E.take (d+1)=E.take d++[E[d]]:=(by rw[amG,bZ k];rfl);rw[fe (by simp;omega),bT,fe (by simp;omega),bT,ar];refine ah.bs (e4 (by rw[cI];omega)) (ah.bs (hb aa) (ah.bs (e4 (by rw[cI];omega)) ?_));rw[hb aa];refine bA.2 ?_;have o:(aA (a+1) (λb=>if b=0 then(0:Z) else(j9 (E.take d) ((b:Z)-1):Z))).set (i+1) (aT (if i+1=0 then(0:Z) else(j9 (E.take d) (((i+1:X):Z)-1):Z)))=aA (a+1) (λb=>if b=0 then(0:Z) else(j9 (E.take (d+1)) ((b:Z)-1):Z)):=by
    rw[hq];refine db λb l=>?_;have m:∀g,j9 (E.take d) g<=21:=λg=>eE (mA _ _) (by rw[hz];omega);by_cases f:b=i+1
    ·subst f;rw[gw,aw aa,aw aa,bk (by have:=m (((i+1:X):Z)-1);omega),p,OD,ay aa]
    rw[gS _ _ f];by_cases h:b=0
    ·rw[ay h,ay h]
    rw[aw h,aw h,p,OD,aw aa,m4]
   dsimp only[aoS];rw[bk aa,o,p,aqD,aqD];rfl
  rintro _ rfl;dsimp only;rw[a2 (aG (show¬((E.length:Z)<au E) by simp only[a8];omega)),amz (cj _)];exact bA.2 bq
 rintro _ rfl;dsimp only;refine ah.aO (P:=λr=>r=(((0:Z),((0:Z),([],([],([],()))))),sB c a E,())) ?_ (by rintro _ rfl;exact bA.2 bq);have x:∀g,hn E g<=21:=λg=>cC (am4 _ _) n;have m:∀g,j9 E g<=21:=λg=>cC (am4 _ _) n;have v:hn E 0=0:=by
  unfold hn;rw[apu.2]
  ·rfl
  intro e q;have:=t e q;simpa using this.2.2.1
 refine ah.steps a (λd s=>s=((d:Z),((0:Z),((0:Z),([],([],([],()))))),((c:Z),(a:Z),aA (a+1) (λb=>if b<=d then(hn E (b:Z):Z) else(j9 E ((b:Z)-1):Z)),E.map (λe=>e.1),E.map (λe=>e.2.2.1),()),())) ?_ ?_ ?_
 ·have j:(aA (a+1) λb=>if b=0 then(0:Z) else(j9 E ((b:Z)-1):Z))=aA (a+1) (λb=>if b<=0 then(hn E (b:Z):Z) else(j9 E ((b:Z)-1):Z)):=db λb l=>by
   by_cases f:b=0
   ·subst f;rw[ay bq,ay (bf _)];show(0:Z)=((hn E 0:X):Z);rw[v];rfl
   rw[aw f,aw aa]
  rw[j];rfl
 ·rintro d _ k rfl;dsimp only;rw[a5 (aJ (aa:(d:Z)<(a:Z))),bk aa,ky (by rw[cI];omega),ky (by rw[cI];omega),lK,lK];refine ah.bs (e4 (by rw[cI];omega)) ?_;rw[hb aa];refine bA.2 ?_;have o:(aA (a+1) (λb=>if b<=d then(hn E (b:Z):Z) else(j9 E ((b:Z)-1):Z))).set (d+1) (aD ((if d+1<=d then(hn E ((d+1:X):Z):Z) else(j9 E (((d+1:X):Z)-1):Z))+(if d<=d then(hn E (d:Z):Z) else(j9 E ((d:Z)-1):Z))))=aA (a+1) (λb=>if b<=d+1 then(hn E (b:Z):Z) else(j9 E ((b:Z)-1):Z)):=by
   rw[hq];refine db λb l=>?_;by_cases f:b=d+1
   ·subst f;have u:=II E (d:Z);have z:=m (d:Z);have A:=x (d:Z);rw[gw,aw aa,ay (bf _),ay (bf _),(aa:(((d+1:X):Z)-1)=(d:Z)),cG aa aa,(aa:((d+1:X):Z)=(d:Z)+1),u];omega
   rw[gS _ _ f];by_cases h:b<=d
   ·rw[ay h,ay aa]
   rw[aw h,aw aa]
  dsimp only[aoS];rw[o]
 rintro _ rfl;dsimp only;rw[a2 (aG (aa:¬((a:Z)<(a:Z))))];have j:aA (a+1) (λb=>if b<=a then(hn E (b:Z):Z) else(j9 E ((b:Z)-1):Z))=aA (a+1) (λb=>(hn E (b:Z):Z)):=db λb l=>(by rw[cc aa]);rw[j];exact bA.2 bq
def hE (b c:Z) (a:c4):bD:=bw (a.2.1<b)||(bw (a.2.1=b)&&bw (a.1<c))
theorem NZ {a c:c4} (d:hj a c) (h:hE e b c=bt):hE e b a=bt:=by
 unfold hE at*;simp only[j4,cJ,amV] at*;rcases d with d|⟨f,g⟩
 ·omega
 omega
theorem Px {j i:Z}:∀{E:bp c4},E.Pairwise hj->E.filter (hE j i)=E.take (E.filter (hE j i)).length
 |[],_=>rfl
 |x::E,b=>by
  obtain⟨d,c⟩:=nF.1 b;by_cases a:hE j i x=bt
  ·rw[HL a,iK,List.take_succ_cons];exact b9 _ (Px c)
  grind [apu,NZ,List.filter_cons_of_neg]
theorem In {E:bp c4} (d:lZ c a E):E.filter (hE 0 0)=[]:=by refine apu.2 λf e b=>?_;have:=d f e;unfold hE at b;grind
theorem Ws {E:bp c4} (d:lZ a c E) (b:Z):E.filter (hE b (a:Z))=E.filter (hE (b+1) 0):=by refine qx λf e=>?_;have:=d f e;unfold hE;grind
theorem Do {E:bp c4} (d:lZ c a E) (b:Z):(E.filter (hE b 0)).length=hn E b:=by unfold hn;congr 1;refine qx λf e=>?_;have:=d f e;unfold hE;grind
theorem Io {j i:Z} {E:bp c4} (c:E.Pairwise hj) (h:a<E.length):hE j i E[a]=bt↔a<(E.filter (hE j i)).length:=by
 constructor
 ·intro b;have g:∀d∈E.take (a+1),hE j i d=bt:=by
   grind [NZ,amx,cw,aoT]
  grind [am5,asr,apv,an5]
 intro b;have e:=Px (j:=j) (i:=i) c;have f:E[a]∈E.filter (hE j i):=(by grind [aoT]);grind
theorem Wt {j i:Z} {E:bp c4} (o:E.Pairwise hj):(∃d:(E.filter (hE j i)).length<E.length,E[(E.filter (hE j i)).length].1=i/\E[(E.filter (hE j i)).length].2.1=j/\(E.filter (hE j (i+1))).length=(E.filter (hE j i)).length+1)\/((∀b,(d:b<E.length)->¬(E[b].1=i/\E[b].2.1=j))/\(E.filter (hE j (i+1))).length=(E.filter (hE j i)).length):=by
 have p:∀e:c4,hE j (i+1) e=bt↔hE j i e=bt\/(e.1=i/\e.2.1=j):=λe=>(by unfold hE;grind);have v:∀e:c4,e.1=i/\e.2.1=j->¬hE j i e=bt:=λe k d=>(by simp_all [j4,cJ,amV,hE]);generalize B:(E.filter (hE j i)).length=g;generalize C:(E.filter (hE j (i+1))).length=l;have q:∀a,(f:a<E.length)->(hE j i E[a]=bt↔a<g):=λa f=>(by grind [Io]);have m:∀a,(f:a<E.length)->(hE j (i+1) E[a]=bt↔a<l):=λa f=>(by grind [Io]);have D:g<=E.length:=ae;have F:l<=E.length:=ae;by_cases n:∃b,∃d:b<E.length,E[b].1=i/\E[b].2.1=j
 ·obtain⟨b,h,k⟩:=n;have w:¬b<g:=λd=>v _ k ((q b h).2 d);have x:b<l:=(m b h).1 ((p _).2 (.inr k));have d3:∀a,(f:a<E.length)->g<=a->a<l->a=b:=λa f z s=>by
   have t:=(p _).1 ((m a f).2 s);have A:E[a].1=i/\E[a].2.1=j:=t.resolve_left λd=>ae;rcases vi a b with c|c|c
   ·have:=iw.1 o a b f h c;rcases this with d|⟨d,r⟩<;>omega
   ·exact c
   have:=iw.1 o b a h f c;rcases this with d|⟨d,r⟩<;>omega
  have u:g=b:=d3 g aa (bf _) aa;subst u;refine .inl ⟨h,k.1,k.2,?_⟩;rcases c6 (g+1) l with c|c
  ·grind
  omega
 refine .inr ⟨λb h k=>n ⟨b,h,k⟩,?_⟩;have y:∀a,a<E.length->(a<l↔a<g):=λa f=>ae;rcases vi l g with c|c|c
 ·grind
 ·exact c
 grind
def po (b:X) (a:c4):X:=a.2.1.toNat*b+a.1.toNat
theorem aeL {E:bp c4} (d:lZ a c E) {b:c4} (e:b∈E):po a b<a*c:=by have f:=d b e;unfold po;have g:(b.2.1.toNat+1)*a<=c*a:=hW _ aa;grind
theorem aeK {rows:X} {a b:Z×Z} (f:0<=a.1/\a.1<(rows:Z)/\0<=a.2) (g:0<=b.1/\b.1<(rows:Z)/\0<=b.2) (c:a.2.toNat*rows+a.1.toNat=b.2.toNat*rows+b.1.toNat):a.1=b.1/\a.2=b.2:=by have d:(a.2.toNat*rows+a.1.toNat)/rows=a.2.toNat:=(by rw[nG,aqE aa,apt aa,m4]);have e:(b.2.toNat*rows+b.1.toNat)/rows=b.2.toNat:=(by rw[nG,aqE aa,apt aa,m4]);grind
def o7 (b:X) (E:bp c4):X->X->Z
 |0,_=>0
 |i+1,a=>if a=po b (E.getD i (0,0,0,())) then((i+1:X):Z) else o7 b E i a
theorem Oj (c:X) (E:bp c4) (b:X):∀i,(o7 c E i b=0/\∀a,a<i->po c (E.getD a (0,0,0,()))≠b)\/∃a,a<i/\po c (E.getD a (0,0,0,()))=b/\o7 c E i b=((a+1:X):Z)
 |0=>.inl ⟨bq,λa e=>absurd e aa⟩
 |i+1=>by
  unfold o7;by_cases d:b=po c (E.getD i (0,0,0,()))
  ·grind
  rw[aw d];rcases Oj c E b i with⟨f,g⟩|⟨a,f,g,h⟩
  ·grind
  grind
theorem WY (b:X) (E:bp c4) (a:X):eK (o7 b E a) (po b (E.getD a (0,0,0,()))) ((a+1:X):Z)=o7 b E (a+1):=by grind [o7,eK]
theorem SD (e:c<=200) (d:a<=200) (g:k<=200):aD (aD ((a:Z)*(c:Z))+(k:Z))=((a*c+k:X):Z):=by have f:a*c<=200*200:=n8 d e;have b:(a:Z)*(c:Z)=((a*c:X):Z):=aa;rw[b,CL aa,<-aqF,CL aa]
theorem J6 {E:bp c4} (b:a<E.length):E.getD a (0,0,0,())=E[a]:=by grind
def kx (E:bp c4) (b a:Z):X:=(E.filter (hE b a)).length
def Sz (E:bp c4) (b a:Z):kx E b a<=E.length:=mA _ _
def qc (e d:X) (E:bp c4) (a:X) (c:X):gq:=((e:Z),(d:Z),aA (a+1) (λa=>(hn E (a:Z):Z)),(E.take c).map (λb=>b.1),(E.take c).map (λb=>b.2.2.1),())
theorem aem {E:bp c4} (x:c<=200) (D:k<=200) (T:E.length<=10000) (J:E.Pairwise hj) (h:lZ c k E):vU ((c:Z),(k:Z),E,())=Y (sB c k E,()):=by
 unfold vU;refine bR.1 ?_;dsimp only;have am:c*k<=200*200:=Nat.mul_le_mul x D;have A:aD ((c:Z)*(k:Z))=((c*k:X):Z):=(by rw[<-anP,CL aa]);rw[A];refine ah.bs (jq aa) ?_;have O:hn E 0=0:=(by rw[<-Do h,In h];rfl);refine ah.aO (P:=λm=>m=(((0:Z),((0:Z),([],([],([],()))))),qc c k E 0 0,aA (c*k) (o7 c E E.length),())) ?_ ?_
 ·refine ah.steps E.length (λe n=>n=((e:Z),((0:Z),((0:Z),([],([],([],()))))),qc c k E 0 0,aA (c*k) (o7 c E e),())) ?_ ?_ ?_
  ·have:qc c k E 0 0=((c:Z),((k:Z),([0],(([]:cR),(([]:cR),()))))):=by
    grind [om,YA,hn,qc]
   rw[jV,this];rfl
  ·rintro e _ l rfl;have g:=h E[e] (ca l);obtain⟨M,R⟩:=cD g.1;obtain⟨N,S⟩:=cD g.2.2.1;dsimp only;rw[a5 (aJ (ae:(e:Z)<au E))];refine ah.bs (fc l) (ah.bs (fc l) ?_);have I:aD (aD (E[e].2.1*(c:Z))+E[e].1)=((po c E[e]:X):Z):=by
    grind [SD,am8,po]
   have V:=aeL h (cT l);grind [bA,nw,cI,hq,bk,J6,WY]
  rintro _ rfl;dsimp only;rw[a2 (aG (ae:¬((E.length:Z)<au E)))];grind [bA]
 rintro _ rfl;dsimp only;refine ah.aO (P:=λm=>m=(((0:Z),((0:Z),([],([],([],()))))),sB c k E,())) ?_ (by grind [bA]);refine ah.steps k (λd n=>n=((d:Z),((0:Z),((0:Z),([],([],([],()))))),qc c k E d (kx E (d:Z) 0),aA (c*k) (o7 c E E.length),())) ?_ ?_ ?_
 ·have:kx E ((0:X):Z) 0=0:=by
   unfold kx;grind [In]
  grind
 ·rintro d _ F rfl;dsimp only;rw[a5 (aJ (aa:(d:Z)<(k:Z)))];refine ah.aO (P:=λm=>m=(((0:Z),((0:Z),([],([],([],()))))),qc c k E d (kx E (d:Z) (c:Z)),aA (c*k) (o7 c E E.length),())) ?_ ?_
  ·refine ah.steps c (λe n=>n=((e:Z),((0:Z),((0:Z),([],([],([],()))))),qc c k E d (kx E (d:Z) (e:Z)),aA (c*k) (o7 c E E.length),())) rfl ?_ ?_
   ·rintro e _ l rfl;dsimp only;rw[a5 (aJ (aa:(e:Z)<(c:Z))),SD x aa aa];have I:d*c+e<c*k:=by
     have p:(d+1)*c<=k*c:=hW _ F;grind
    rw[ky (by grind [cI]),lK];have w:=Sz E (d:Z) (e:Z);have q:=Wt (j:=(d:Z)) (i:=(e:Z)) J;change(∃o:kx E (d:Z) (e:Z)<E.length,E[kx E (d:Z) (e:Z)].1=(e:Z)/\E[kx E (d:Z) (e:Z)].2.1=(d:Z)/\kx E (d:Z) ((e:Z)+1)=kx E (d:Z) (e:Z)+1)\/((∀u,(o:u<E.length)->¬(E[u].1=(e:Z)/\E[u].2.1=(d:Z)))/\kx E (d:Z) ((e:Z)+1)=kx E (d:Z) (e:Z)) at q;rw[show(e:Z)+1=((e+1:X):Z) from by omega] at q;generalize kx E (d:Z) (e:Z)=z at*;rw[bk aa];have G:∀f,(o:f<E.length)->po c E[f]=d*c+e->E[f].1=(e:Z)/\E[f].2.1=(d:Z):=(by intro f o ad;have g:=h E[f] (cT o);exact aeK (rows:=c) (a:=(E[f].1,E[f].2.1)) (b:=((e:Z),(d:Z))) ⟨g.1,g.2.1,g.2.2.1⟩ ⟨aa,aa,aa⟩ (by grind [po]));rcases Oj c E (d*c+e) E.length with⟨L,av⟩|⟨f,t,y,K⟩
    ·rw[L];rcases q with⟨p,s,B,C⟩|⟨p,s⟩
     ·grind [am8,J6,po,absurd]
     rw[a2 (aG aa)];grind [bA,ah.bs]
    rw[K];rw[J6 t] at y;obtain⟨aB,ap⟩:=G f t y;rcases q with⟨p,s,B,C⟩|⟨p,s⟩
    ·have H:f=z:=by
      rcases vi f z with r|r|r
      ·grind [amx,hj]
      ·exact r
      grind [amx,hj]
     subst H;rw[a5 (aJ aa),(aa:((f+1:X):Z)-1=(f:Z)),CL aa];unfold qc;dsimp only;rw[fe ae,bT];have an:E.take (f+1)=E.take f++[E[f]]:=ag;rw[fc t,bT,fe ae,bT,bT];grind [bA]
    grind
   rintro _ rfl;dsimp only;rw[a2 (aG (aa:¬((c:Z)<(c:Z))))];grind [bA]
  rintro _ rfl;have w:=Sz E (d:Z) (c:Z);have ar:kx E (d:Z) (c:Z)=kx E ((d+1:X):Z) 0:=(by grind [Ws,kx]);have Q:kx E ((d+1:X):Z) 0=hn E ((d+1:X):Z):=Do h _;rw[ar] at w|-;unfold qc;dsimp only;have U:au ((E.take (kx E ((d+1:X):Z) 0)).map λv=>v.1)=(hn E ((d+1:X):Z):Z):=ae;grind [bA,fe,cI,om,bk]
 rintro _ rfl;dsimp only;rw[a2 (aG (aa:¬((k:Z)<(k:Z))))];have ar:kx E (k:Z) 0=E.length:=(by unfold kx;rw[an5.2];intro v g;have:=h v g;simp_all [Bool.or_eq_true,Bool.and_eq_true,amV,hE]);have:qc c k E k (kx E (k:Z) 0)=sB c k E:=(by simp_all [amz,cj,qc,sB]);grind [bA]
theorem xI {E:bp c4} (g:E.Pairwise hj) (e:lZ k c E) (f:a<E.length) (b:Z):E[a].2.1<b↔a<hn E b:=by have d:=Io (j:=b) (i:=0) g f;rw[Do e] at d;rw[<-d];have:=e E[a] (cT f);unfold hE;grind
theorem Oy {E:bp c4} (b:lZ c a E):hn E 0=0:=by rw[<-Do b,In b];rfl
theorem Ox {E:bp c4} (b:lZ c a E):hn E (a:Z)=E.length:=by unfold hn;rw[nE.2];intro e d;have:=b e d;grind
theorem Yy {b:X->Z} (d:a<c):(aA c b).getD a 0=b a:=by grind [gu]
theorem FO {E:bp c4} (c:a<E.length):(E.map λb=>b.1).getD a 0=E[a].1:=by grind
theorem Y9 {E:bp c4} (c:a<E.length):(E.map λb=>b.2.2.1).getD a 0=E[a].2.2.1:=by grind
def wY (a:X) (E:bp c4):amv:=aA (a+1) (λb=>(hn E (b:Z):Z))
theorem wZ {E:bp c4} (b:a<=c):(wY c E).getD a 0=(hn E (a:Z):Z):=Yy aa
theorem IH (E:bp c4) (a:Z):hn E a<=E.length:=mA _ _
theorem ahx {E:bp c4} (i:E.Pairwise hj) (d:lZ c a E):g1 c a (wY a E) (E.map λj=>j.1) (E.map λj=>j.2.2.1) where
 len:=cI _ _
 first:=by rw[wZ (eU _)];grind [Oy]
 mono:=λe k=>by grind [wZ,II]
 last:=by rw[wZ (bf _),Ox d,eL]
 val:=by simp
 rng:=λe f k g h=>by rw[wZ aa] at g h;have b:f<E.length:=(by grind [IH]);rw[FO b];have:=d E[f] (cT b);omega
 asc:=λe f k g h=>by rw[wZ aa] at g h;have b:f<E.length:=(by grind [IH]);rw[FO b,FO aa];have l:=xI i d b (e:Z);have m:=xI i d b ((e+1:X):Z);have n:=xI i d (aa:f-1<E.length) (e:Z);grind [amx,xI,hj]
theorem TY {rows e0:X} {E:bp c4} (c:rows<=200) (b:e0<=200) (f:E.length<=10000) (e:∀a∈E,fM a.2.2.1):j7 rows e0 (wY e0 E) (E.map λa=>a.1) (E.map λa=>a.2.2.1) where
 hr:=c
 hc:=b
 hi:=by grind
 hs:=by grind [cI,wY]
 hv:=by grind
 hw:=λg d=>by grind
def JA (c f:amv) (d:Z) (b a:X):hI c f d b a=aA a λe=>(c.getD (b+e) 0,d,f.getD (b+e) 0,()):=by
 induction a with
 |zero=>rfl
 |succ a g=>rw[hI,g,om]
theorem X7 {E:bp c4} (i:E.Pairwise hj) (h:lZ c a E):∀b,b<=a->c5 (wY a E) (E.map λf=>f.1) (E.map λf=>f.2.2.1) b=E.take (hn E (b:Z)):=by
 intro b
 induction b with
 |zero=>
  intro _;show[]=E.take (hn E 0);grind [Oy]
 |succ b q=>
  intro t;rw[c5,q aa,wZ aa,wZ aa,JA,fV,fV];have n:hn E ((b+1:X):Z)=hn E (b:Z)+j9 E (b:Z):=(by grind [II]);have o:=IH E ((b+1:X):Z);have j:∀d,(e:d<E.length)->hn E (b:Z)<=d->d<hn E ((b+1:X):Z)->E[d].2.1=(b:Z):=λd e l m=>(by have r:=xI i h e (b:Z);have s:=xI i h e ((b+1:X):Z);omega);rw[n] at j o|-;generalize hn E (b:Z)=k at*;generalize j9 E (b:Z)=g at*;rw[th,List.take_add];congr 1;have p:((E.drop k).take g).length=g:=ae;refine aoJ (by rw[cI,p]) λu l m=>?_;grind [lK,FO,Y9,cI]
def Pm {E:bp c4} (e:E.Pairwise hj) (d:lZ c a E):c5 (wY a E) (E.map λb=>b.1) (E.map λb=>b.2.2.1) a=E:=by rw[X7 e d a (bf _),Ox d,gJ (bf _)]
theorem YH {E:bp c4} (b:∀a∈E,bo a.2.2.1≠2047):oO (E.map λa=>a.2.2.1):=by intro d c;grind
def Oo {E:bp c4} (f:E.Pairwise hj) (e:lZ c a E) (d:∀b∈E,bo b.2.2.1≠2047):hZ c a (wY a E) (E.map λb=>b.1) (E.map λb=>b.2.2.1)=0:=
 lF.2 ⟨ahx f e,YH d⟩
theorem tY (e:g1 c a d f g):lZ c a (c5 d f g a):=by intro n h;obtain⟨b,i,h⟩:=KR.1 h;obtain⟨j,k,rfl⟩:=BR.1 h;have l:=e.pos b aa;have m:=e.pos (b+1) aa;have:=e.rng b ((d.getD b 0).toNat+j) i aa aa;grind
theorem ua (b:g1 c a g f d) {i:Z->Prop} (m:∀k∈d,i k):∀j∈c5 g f d a,i j.2.2.1:=by intro j h;obtain⟨e,l,h⟩:=KR.1 h;obtain⟨s,n,rfl⟩:=BR.1 h;have q:=b.pos e aa;have r:=b.pos (e+1) aa;have o:=b.sx (e+1) aa;have p:=b.val;grind
theorem JL (b:oO d):∀a∈d,bo a≠2047:=by intro a e;obtain⟨f,c,rfl⟩:=hN.1 e;have:=b f c;grind
def ux (a:c4):bD:=bw (a.1>=a.2.1)
def ht (E:bp c4):bp c4:=E.filter ux
def BO {E:bp c4} (a:E.Pairwise hj):(ht E).Pairwise hj:=arO vc a
def BN {E:bp c4} (b:lZ c a E):lZ c a (ht E):=λe d=>b e (hV.1 d).1
def aan {E:bp c4}:∀a∈ht E,a.2.1<=a.1:=λa b=>by have:=(hV.1 b).2;unfold ux at this;simpa using this
def Ud {b:h->bD} {E:bp h} (d:a<E.length):(E.take (a+1)).filter b=(E.take a).filter b++(if b E[a]=bt then[E[a]] else[]):=by
 rw[j6,cH d,qw];congr 1;show[E[a]].filter b=_;by_cases c:b E[a]=bt
 ·rw[ay c,HL c];rfl
 rw[aw c,HK c];rfl
def K5:∀(a:amu) (b:X),a.Pairwise (· < ·)->(∀x∈a,x<b)->a.length<=b
 |[],_,_,_=>eU _
 |x::a,b,i,d=>by
  obtain⟨c,j⟩:=nF.1 i;have p:=d x ac;have:=K5 (a.map λf=>f-(x+1)) (b-(x+1)) (by
   rw[n6];refine rQ ?_ j;intro h m k o n;have:=c h k;omega) (by
   intro f l;obtain⟨g,e,rfl⟩:=eT.1 l;have:=c g e;have:=d g (by simp[e]);omega)
  rw[eL] at this;rw[iK];omega
def Li (a:Z):Z:=if a=0 then 0 else if a=1 then 5 else if a=2 then 9 else if a=3 then 12 else if a=4 then 14 else 15
def aap (s:a<=6) {E:bp c4} (o:E.Pairwise hj) (c:lZ a a E) (d:∀b∈E,b.2.1<=b.1):E.length<=21:=by
 have m:=K5 (E.map λb=>(Li b.2.1+b.1).toNat) 21 (by
  rw[n6];refine rQ ?_ o;intro e f g h n;have k:=c e g;have q:=c f h;have l:=d e g;have r:=d f h;unfold hj at n;unfold Li;split<;>split<;>(try split)<;>(try split)<;>(try split)<;>(try split)<;>(try split)<;>(try split)<;>(try split)<;>(try split)<;>omega) (by
  intro t p;obtain⟨j,i,rfl⟩:=eT.1 p;have k:=c j i;have l:=d j i;unfold Li;split
  ·omega
  split
  ·omega
  split
  ·omega
  split
  ·omega
  split<;>omega)
 rwa[eL] at m
structure ny (n:X) (st jb n0:amv):Prop where
 BU:n<=7
 el:(ht (c5 st jb n0 n)).length<=21
def ny.abu (c:a<=6) (b:hZ a a f d g=0):ny a f d g:=
 ⟨aa,eE (aap c (BO (tZ (lF.1 b).1 a (bf _))) (BN (tY (lF.1 b).1)) aan) ab⟩
def ny.Lh (c:a<=5) (b:hZ a a f d g=0):ny a f d g:=ny.abu (eE c ab) b
def Vm (j:ny a f d g) (b:j7 a a f d g) (l:hZ a a f d g=0):Ex (((a:Z),(a:Z),f,d,g,()),())=Y (sB a a (ht (c5 f d g a)),0,()):=by
 have h:=(lF.1 l).1;have m:=tZ h a (cj _);have n:=tY h;have s:=j.el;have t:=j.BU;have r:(c5 f d g a).length<=10000:=(by rw[Bn h a (cj _)];have:=h.sx a (cj _);have:=b.hi;omega);unfold Ex;refine aq b.check ?_;dsimp only;rw[l,fZ,aJ bq];refine aq (JB h b.hc b.hi) ?_;dsimp only;generalize c5 f d g a=E at*;refine bR.1 ?_;refine ah.aO (P:=λo=>o=(((0:Z),((0:Z),([],([],([],()))))),ht E,())) ?_ ?_
 ·refine ah.steps E.length (λc p=>p=((c:Z),((0:Z),((0:Z),([],([],([],()))))),ht (E.take c),E,())) rfl ?_ ?_
  ·rintro c _ k rfl;dsimp only;rw[a5 (aJ (show(c:Z)<au E by simp only[a8];omega)),ky k,bk aa];have q:(ht (E.take c)).length<=10000:=cC (am4 _ _) (by rw[am5];omega);unfold ht at*;rw[Ud k];by_cases i:ux E[c]=bt
   ·have e:=i;unfold ux at e;rw[a5 e,ay i,fe (by simp only[iK,qC];omega)];exact bA.2 bq
   have e:=i;unfold ux at e;rw[a2 (by simpa using e),aw i,pG];exact bA.2 bq
  rintro _ rfl;dsimp only;rw[a2 (aG (show¬((E.length:Z)<au E) by simp only[a8];omega)),amz (cj _)];exact bA.2 bq
 rintro _ rfl;dsimp only;exact ah.bs (WI b.hr b.hc aa (BO m) (BN n)) (bA.2 bq)
def S0 (k:ny a f d g) (e:j7 a a f d g) (j:hZ a a f d g=0):vT (((a:Z),(a:Z),f,d,g,()),())=Y (sB a a (ht (c5 f d g a)),0,()):=by
 have i:=(lF.1 j).1;have m:=tZ i a (cj _);have n:=tY i;have s:=k.el;have t:=k.BU;have r:(c5 f d g a).length<=10000:=(by rw[Bn i a (cj _)];have:=i.sx a (cj _);have:=e.hi;omega);unfold vT;refine aq e.GN ?_;dsimp only;rw[j,fZ,aJ bq];refine aq (SZ e j) ?_;dsimp only;generalize c5 f d g a=E at*;refine bR.1 ?_;refine ah.aO (P:=λo=>o=(((0:Z),((0:Z),([],([],([],()))))),ht E,())) ?_ ?_
 ·refine ah.steps E.length (λb p=>p=((b:Z),((0:Z),((0:Z),([],([],([],()))))),ht (E.take b),())) rfl ?_ ?_
  ·rintro b _ l rfl;dsimp only;rw[a5 (aJ (show(b:Z)<au E by simp only[a8];omega)),fc l,bk aa];have q:(ht (E.take b)).length<=10000:=cC (am4 _ _) (by rw[am5];omega);unfold ht at*;rw[Ud l];by_cases h:ux E[b]=bt
   ·have c:=h;unfold ux at c;rw[aM,aM,a5 c,ay h,aM,fe (by simp only[iK,qC];omega)];exact bA.2 bq
   have c:=h;unfold ux at c;rw[aM,aM,a2 (by simpa using c),aw h,pG];exact bA.2 bq
  rintro _ rfl;dsimp only;rw[a2 (aG (show¬((E.length:Z)<au E) by simp only[a8];omega)),amz (cj _)];exact bA.2 bq
 rintro _ rfl;dsimp only;exact ah.bs (aem e.hr e.hc aa (BO m) (BN n)) (bA.2 bq)
def kJ (b:ez) (a:amv):ew:=(bK a.length).map λ(c:X)=>(bK a.length).map λ(d:X)=>bw (a.getD d 0∈b.getD (a.getD c 0).toNat [])
theorem yB (b:ez) (a:amv):(kJ b a).length=a.length:=by simp[kJ]
theorem Iq (b:a<d.length) (e:c<d.length):hX (kJ l d) a c=bw (d.getD c 0∈l.getD (d.getD a 0).toNat []):=by grind [anF,hX,kJ]
theorem ahG (g:0<=b/\b<l.length) (h:0<=e/\e<l.length):∃a,az (pw l) b=Y a/\az a e=Y (bw (e∈l.getD b.toNat [])):=by
 have d:b.toNat<l.length:=aa;have f:e.toNat<l.length:=aa;refine⟨(bK l.length).map λ(c:X)=>bw ((c:Z)∈l[b.toNat]),?_,?_⟩
 ·simp_all [ay,Uc,az]
 unfold az;grind
theorem Vk (B:fL l) (w:∀d∈l,d.length<4611686018427387904) (G:l.length<=200) (s:∀m∈d,0<=m/\m<(l.length:Z)) (D:d.Nodup) (R:d.length<=400):Fc ((l,()),d,())=Y ((ku (kJ l d),()),0,()):=by
 classical
 rw[<-bR];unfold Fc;have C:jl l=0:=(by simp_all [aw,ay,jl]);have ar:bw (∀m∈d,0<=m/\m<(l.length:Z))=bt:=amA s;have A:bw (¬d.Nodup)=bu:=amT (λb=>b D);simp only[L5 l w,C,Vy d _ aa,ar,VH d aa,A,Nl w G (λg K=>(B.asc g K).2),Pb d.length aa,aM,aqC,bQ,iI];simp only[b1];refine cB (P:=λu=>u.2.1=kJ l d) ?_ ?_
 ·refine ah.for (i0:=0) d.length (λa v=>v.2.1=(bK d.length).map λ(g:X)=>if g<a then(kJ l d).getD g [] else bM d.length bu) rfl ?_ (eU _) ?_ ?_
  ·apply iJ;grind
  ·rintro a ⟨x,o,_⟩ _ i e;simp only at e;simp only[b3,b1];refine⟨λ_=>?_,λp=>by grind⟩;refine cB (P:=λu=>u.2.1=(bK d.length).map λ(g:X)=>if g<a+1 then(kJ l d).getD g [] else bM d.length bu) ?_ (by grind [jM,bA]);refine ah.for (i0:=0) d.length (λc v=>v.2.1=o.set a ((bK d.length).map λ(h:X)=>if h<c then hX (kJ l d) a h else bu)) rfl ?_ (eU _) ?_ ?_
   ·show o=_;apply iJ;intro f;rw[zN];by_cases k:a=f
    ·subst k;rw[ay bq,e];simp[i,List.map_const']
    grind
   ·rintro c ⟨O,n,_⟩ _ r j;simp only at j;have L:=s _ (cT i);have M:=s _ (cT r);obtain⟨N,H,I⟩:=ahG L M;have S:n.length=d.length:=ae;have q:a<n.length:=aa;have J:n[a]=(bK d.length).map λ(h:X)=>if h<c then hX (kJ l d) a h else bu:=by
     grind
    have E:az d (a:Z)=Y d[a]:=gj (cH i);have F:az d (c:Z)=Y d[c]:=gj (cH r);simp only[b3,b1,ah.FU,E,F,H,I,bA,ah.Dn,ah.KQ,fV];refine⟨λ_=>⟨⟨aa,q⟩,q,⟨aa,ae⟩,q,ae,jM aa,?_⟩,λp=>by grind⟩;rw[J,j,List.set_set];congr 1;apply iJ;intro f;rw[zN,jv,jv];rcases c6 f d.length with b|b
    ·rw[zM b];simp only[jT,eL,oU];by_cases k:c=f
     ·subst k;have y:d.getD c 0=d[c]:=ae;have z:d.getD a 0=d[a]:=ae;rw[ay bq,ay b,ay aa,Iq i r,y,z]
     grind
    grind
   rintro⟨O,n,_⟩ j;simp only at j;simp only[b3,bA];refine⟨λp=>by grind,λ_=>?_⟩;rw[j,e];apply iJ;intro f;rw[zN,jv,jv];rcases c6 f d.length with b|b
   ·rw[zM b];simp only[jT,eL,oU];by_cases k:a=f
    ·subst k;rw[ay bq,ay b,ay aa];congr 1;have:(kJ l d).getD a []=(bK d.length).map λ(h:X)=>hX (kJ l d) a h:=by
      have Q:(kJ l d).getD a []=(bK d.length).map λ(c:X)=>bw (d.getD c 0∈l.getD (d.getD a 0).toNat []):=(by simp[kJ,anF,i]);grind [Iq,amU]
     simp_all
    grind
   grind
  rintro⟨x,o,_⟩ e;simp only at e;simp only[b3,bA];refine⟨λp=>by grind,λ_=>?_⟩;rw[e];apply iJ;intro f;rw[jv];rcases c6 f d.length with b|b
  ·simp_all [ay,cH,yB,jT,zM,anF]
  grind [aoi,yB]
 rintro⟨x,o,_⟩ e;simp only at e;subst e;rw[M5]
 ·grind [bA]
 ·intro N t;unfold kJ at t;simp only[eT] at t;obtain⟨a,_,rfl⟩:=t;simp[kJ]
 grind [yB]
section
inductive jj (A:X->X->Prop) (P:X->Prop):X->X->Prop
 |one {i j:X}:A i j->jj A P i j
 |step {i m j:X}:A i m->P m->jj A P m j->jj A P i j
section
variable {A:X->X->Prop} {P:X->Prop}
theorem jj.trans (b:jj A P c a) (e:P a) (d:jj A P a k):jj A P c k:=by
 induction b with
 |one b=>exact .step b e d
 |step b f _ g=>exact .step b f (g e d)
def jj.symm (f:∀d e,A d e->A e d) (b:jj A P a c):jj A P c a:=by
 induction b with
 |one b=>exact .one (f _ _ b)
 |step b g _ h=>exact h.trans g (.one (f _ _ b))
theorem jj.mono (f:∀d,P d->r d) (b:jj A P a c):jj A r a c:=by
 induction b with
 |one b=>exact .one b
 |step b e _ g=>exact .step b (f _ e) g
def jj.insert_iff:jj A (λf=>P f\/f=k) a c↔jj A P a c\/(jj A P a k/\jj A P k c):=by
 constructor
 ·intro b
  induction b with
  |one b=>exact .inl (.one b)
  |@step a m c b g _ d=>
   rcases g with g|rfl
   ·rcases d with d|⟨l,h⟩
    ·exact .inl (.step b g d)
    exact .inr ⟨.step b g l,h⟩
   rcases d with d|⟨_,h⟩
   ·exact .inr ⟨.one b,d⟩
   exact .inr ⟨.one b,h⟩
 rintro(b|⟨i,j⟩)
 ·exact b.mono λf e=>.inl e
 exact(i.mono λf e=>.inl e).trans (.inr bq) (j.mono λf e=>.inl e)
def jj.none:jj A (λ_=>b7) a c↔A a c:=by
 constructor
 ·intro b;cases b with
  |one b=>exact b
  |step _ b _=>exact b.elim
 exact .one
theorem UJ:r5 A k a c↔jj A (λf=>f<k) a c:=by
 constructor
 ·intro b
  induction b with
  |one b=>exact .one b
  |step b d _ e=>exact .step b d e
 intro b
 induction b with
 |one b=>exact .one b
 |step b d _ e=>exact .step b d e
end
end
section
theorem ahk:∀{b a:amv},b.Pairwise (· < ·)->a.Pairwise (· < ·)->(∀c,c∈b↔c∈a)->b=a:=by
 intro b
 induction b with
 |nil=>
  intro a _ _ d;cases a with
  |nil=>rfl
  |cons e a=>grind [aop]
 |cons c b h=>
  intro a f g d;cases a with
  |nil=>grind
  |cons e a=>
   grind [aop,aoz]
structure zD (nK:ez) (S:X->Prop) (T:ew) (gone:amr):Prop where
 Hh:T.length=nK.length
 rows:∀v,(h:v<T.length)->T[v].length=nK.length
 wj:gone.length=nK.length
 PU:∀v,(h:v<gone.length)->(gone[v]=bt↔S v)
 Mz:∀u w,(ai8:u<T.length)->(hw:w<T[u].length)->¬S u->¬S w->(T[u][w]=bt↔u≠w/\jj (kE nK) S u w)
def mj (b:ew) (c:amr) (e d:X):amv:=((bK d).filter λa=>hX b e a&&!c.getD a bu).map λ(a:X)=>(a:Z)
theorem KT (a:zD l r p s) {v w:X} (j:v<l.length) (f:¬r v):(w:Z)∈mj p s v l.length↔w<l.length/\¬r w/\v≠w/\jj (kE l) r v w:=by
 unfold mj;simp only[eT,hV,gN,cJ,uY];have k:∀w,w<l.length->((hX p v w=bt/\s.getD w bu=bu)↔¬r w/\v≠w/\jj (kE l) r v w):=by
  intro w g;have d:v<p.length:=(by rw[a.Hh];exact j);have e:w<p[v].length:=(by rw[a.rows v d];exact g);have h:w<s.length:=(by rw[a.wj];exact g);have i:s.getD w bu=s[w]:=ae;rw[xK d e,i,Bool.eq_false_iff,ne_eq,a.PU w h];constructor
  ·rintro⟨b,c⟩;exact⟨c,(a.Mz v w d e f c).1 b⟩
  rintro⟨b,c⟩;exact⟨(a.Mz v w d e f b).2 c,b⟩
 grind
theorem K6 (b:ew) (c:amr) (d a:X):(mj b c d a).length<=a:=by grind [cC,am4,cb,mj]
theorem K7 (e:b∈mj p s c a):∃d:X,b=(d:Z)/\d<a:=by grind [mj]
theorem Nb (l:p.length=c) (w:∀a,(e:a<p.length)->p[a].length=c) (n:s.length=c) (u:c<=4294967296) (x:a<c):Be (Y (p,s,()),(a:Z),())=Y (mj p s a c,()):=by
 rw[<-bR];unfold Be;have t:hR=4294967296:=rfl;simp only[b1,bA];refine cB (P:=λd=>d.1=mj p s a c) ?_ ae;refine ah.for (i0:=0) c (λi k=>k.1=mj p s a i) rfl rfl (eU _) ?_ ?_
 ·rintro b ⟨j,_⟩ _ y f;simp only at f;have v:=K6 p s a b;simp only[aM];rw[b3];refine⟨λ_=>?_,λm=>by grind⟩;rw[b1,b1];have g:a<p.length:=aa;have h:b<p[a].length:=ae;have o:az p (a:Z)=Y p[a]:=gj (cH g);have q:az p[a] (b:Z)=Y p[a][b]:=gj (cH h);have r:az s (b:Z)=Y (s.getD b bu):=gj ae;refine cB (P:=λd=>d=((hX p a b&&!s.getD b bu),j,())) ?_ ?_
  ·simp_all [b1,b3,bA,xK]
  rintro _ rfl;simp only[b3,b1,bA,aol];refine⟨λe=>⟨ae,jM aa,?_⟩,λe=>⟨jM aa,?_⟩⟩
  ·simp_all [ay,nD,apw,kj,qw,kA,mj]
  simp_all [kj,qw,kA,nD,apw,aw,mj]
 simp_all [aM,b3,bA]
theorem Ww (e:a<p.length) (f:c<p[a].length) (b d:X):hX (p.set a (p[a].set c bt)) b d=(hX p b d||(b==a&&d==c)):=by grind [hX]
theorem Rl (a:ew) (b:amr) (d c:X):(mj a b d c).Pairwise (· < ·):=Mn _ _
theorem Va (K:p.length=a) (O:∀c,(g:c<p.length)->p[c].length=a) (ap:s.length=a) (av:a<=4294967296) (a0:c<a):ah (Bd ((p,s,()),(c:Z),())) (λq=>q.1.2.1=s.set c bt/\q.1.1.length=a/\(∀c,(g:c<q.1.1.length)->q.1.1[c].length=a)/\∀d b,d<a->b<a->(hX q.1.1 d b=bt↔hX p d b=bt\/((d:Z)∈mj p s c a/\(b:Z)∈mj p s c a/\d≠b))):=by
 unfold Bd;simp only[Nb K O ap av a0,aM];have am:=K6 p s c a;have E:∀I∈mj p s c a,∃b:X,I=(b:Z)/\b<a:=λI Q=>K7 Q;have an:=Rl p s c a;generalize mj p s c a=f at am E an;have a3:∀l m:X,(g:l<f.length)->(ad:m<f.length)->f[l]=f[m]->l=m:=λl m g ad J=>by
  rcases vi l m with C|C|C
  ·grind [amx]
  ·exact C
  grind [amx]
 simp only[b1];refine cB (P:=λe:dL×bz=>e.1.2.1=s/\e.1.1.length=a/\(∀c,(g:c<e.1.1.length)->e.1.1[c].length=a)/\∀d b,d<a->b<a->(hX e.1.1 d b=bt↔hX p d b=bt\/((d:Z)∈f/\(b:Z)∈f/\d≠b))) ?_ ?_
 ·refine ah.for (i0:=0) f.length (λh e=>e.1.2.1=s/\e.1.1.length=a/\(∀c,(g:c<e.1.1.length)->e.1.1[c].length=a)/\∀d b,d<a->b<a->(hX e.1.1 d b=bt↔hX p d b=bt\/((d:Z)∈f.take h/\(b:Z)∈f/\d≠b))) rfl ⟨bq,K,O,λd b _ _=>by simp⟩ (eU _) ?_ ?_
  ·rintro h ⟨⟨R,S,_⟩,_⟩ _ H ⟨r,t,u,D⟩;simp only at r t u D;simp only[b3,b1];refine⟨λ_=>?_,λM=>by grind⟩;refine cB (P:=λe:dL×bz=>e.1.2.1=s/\e.1.1.length=a/\(∀c,(g:c<e.1.1.length)->e.1.1[c].length=a)/\∀d b,d<a->b<a->(hX e.1.1 d b=bt↔hX p d b=bt\/((d:Z)∈f.take (h+1)/\(b:Z)∈f/\d≠b))) ?_ (by grind [jM,bA]);obtain⟨j,L,bl⟩:=E _ (cT H);refine ah.for (i0:=0) f.length (λk e=>e.1.2.1=s/\e.1.1.length=a/\(∀c,(g:c<e.1.1.length)->e.1.1[c].length=a)/\∀d b,d<a->b<a->(hX e.1.1 d b=bt↔hX p d b=bt\/((d:Z)∈f.take h/\(b:Z)∈f/\d≠b)\/(d=j/\(b:Z)∈f.take k/\d≠b))) rfl ⟨r,t,u,λd b x y=>by grind⟩ (eU _) ?_ ?_
   ·rintro k ⟨⟨A,T,_⟩,_⟩ _ w ⟨i,n,o,z⟩;simp only at i n o z;obtain⟨B,F,bs⟩:=E _ (cT w);have U:az f (h:Z)=Y (j:Z):=gj (by rw[cH H,L]);have V:az f (k:Z)=Y (B:Z):=gj (by rw[cH w,F]);have v:j<A.length:=aa;have G:B<A[j].length:=ae;simp only[b3,b1,U,V,bA,ah.FU,ah.Dn,ah.KQ,fV];refine⟨λ_=>⟨λN=>⟨⟨aa,v⟩,v,⟨aa,G⟩,v,G,jM aa,i,ae,λI Q=>?_,λd b x y=>?_⟩,λbx=>⟨jM aa,i,n,o,λd b x y=>?_⟩⟩,λM=>by grind⟩
    ·rw[arP];grind
    ·have N:h≠k:=ae;have a4:j≠B:=λJ=>N (a3 h k H w (by rw[L,F,J]));rw[Ww v G,j4,z d b x y,<-uS w,F,hl,gI];grind
    grind [uS,amF]
   rintro⟨⟨A,T,_⟩,_⟩ ⟨i,n,o,z⟩;simp only at i n o z;simp only[b3,bA];refine⟨λM=>by grind,λ_=>⟨i,n,o,λd b x y=>?_⟩⟩;grind [amy,uS,amF]
  rintro⟨⟨R,S,_⟩,_⟩ ⟨r,t,u,D⟩;simp only at r t u D;simp only[b3,bA];grind
 grind [b1,ah.FU,ah.Dn,bA,ah.KQ,am8]
theorem U9 (F:fL l) (G:l.length<=4294967296) (b:zD l r p s) (j:a<l.length) (q:¬r a):ah (Bd ((p,s,()),(a:Z),())) (λB=>zD l (λg=>r g\/g=a) B.1.1 B.1.2.1):=by
 refine(Va b.Hh b.rows b.wj G j).mono ?_;rintro⟨⟨M,h,_⟩,_⟩ ⟨k,m,n,o⟩;simp only at k m n o|-;subst k;have v:=kE.symm F;refine⟨m,n,by rw[zO];exact b.wj,λg N=>?_,λc e H I t u=>?_⟩
 ·rw[arP];by_cases J:a=g
  ·grind
  rw[aw J,b.PU];grind
 have w:c<l.length:=aa;have y:e<l.length:=ae;have:=o c e w y;rw[xK H I] at this;have i:c<p.length:=(by rw[b.Hh];omega);have x:e<p[c].length:=(by rw[b.rows c i];omega);have z:¬r c:=λd=>t (.inl d);have A:¬r e:=λd=>u (.inl d);have K:a≠c:=λd=>t (.inr d.symm);have L:a≠e:=λd=>u (.inr d.symm);rw[this,xK i x,b.Mz c e i x z A,KT b j q,KT b j q,jj.insert_iff];constructor
 ·rintro(⟨h,f⟩|⟨⟨_,_,_,f⟩,⟨_,_,_,D⟩,E⟩)
  ·grind
  exact⟨E,.inr ⟨f.symm v,D⟩⟩
 rintro⟨h,f|⟨f,C⟩⟩
 ·grind
 exact .inr ⟨⟨w,z,K,f.symm v⟩,⟨y,A,L,C⟩,h⟩
theorem U0 (e:fL l) (j:∀n∈l,n.length<4611686018427387904) (k:l.length<=200):ah (Fe ((l,()),())) (λg=>zD l (λ_=>b7) g.1.1 g.1.2.1):=by
 unfold Fe;have o:hR=4294967296:=rfl;simp only[Nl j k (λc m=>(e.asc c m).2),aM,b1,ah.KP,bA,fV];refine⟨⟨aa,aa,aa⟩,Mv l,λc i=>?_,ac,λc i=>by simp,λb d p q _ _=>?_⟩
 ·simp[pw]
 rw[jj.none];have f:b<l.length:=(by grind [Mv]);have r:d<l.length:=(by grind [pw]);have h:(pw l)[b][d]=bw ((d:Z)∈l[b]):=(by grind [pw,anF]);rw[h,amV];constructor
 ·exactλa=>⟨kE.ne e ⟨f,a⟩,f,a⟩
 exactλa=>a.2.2
open Classical in
theorem agi (i:fL l) (j:∀s∈l,s.length<4611686018427387904) (p:l.length<=200):Bf ((l,()),())=Y ((bK l.length).map (ho l),0,()):=by
 rw[<-bR];unfold Bf;have A:hR=4294967296:=rfl;have n:jl l=0:=(by simp_all [aw,ay,jl]);simp only[L5 l j,n,aM,aqC,bQ];simp only[b1];refine(U0 i j p).mono ?_;rintro⟨⟨f,g,_⟩,_⟩ c;simp only at c;simp only[b1];refine cB (P:=λt=>t.1=(bK l.length).map (ho l)) ?_ (by grind [bA]);refine ah.for (i0:=0) l.length (λa h=>h.2.1=(bK a).map (ho l)/\zD l (λk=>k<a) h.1.1 h.1.2.1) rfl ⟨bq,?_⟩ (eU _) ?_ ?_
 ·grind
 ·rintro a ⟨⟨f,g,_⟩,C,_⟩ _ e ⟨q,c⟩;simp only at q c;have B:=K6 f g a l.length;have y:[(a:Z)]++mj f g a l.length=ho l a:=by
   have o:=λd=>KT c (v:=a) (w:=d) e (rY a);refine ahk ?_ (OE l a) ?_
   ·rw[zR,nF];grind [K7,Rl]
   intro k;constructor
   ·intro b;rw[zR,fH] at b;rcases b with rfl|b
    ·exact wy.2 ⟨e,.inl bq⟩
    obtain⟨d,rfl,_⟩:=K7 b;have:=(o d).1 b;exact wy.2 ⟨this.1,.inr ⟨aa,UJ.2 this.2.2.2⟩⟩
   intro b;rw[zR,fH];have r:=b;unfold ho vH at b;simp only[eT] at b;obtain⟨d,_,rfl⟩:=b;obtain⟨u,m|⟨m,x⟩⟩:=wy.1 r
   ·omega
   grind [UJ]
  rw[b3];refine⟨λ_=>?_,λz=>by grind⟩;simp only[Nb c.Hh c.rows c.wj (aa:l.length<=4294967296) e,aM,b1,aol];refine⟨ae,ae,?_⟩;refine(U9 i aa c e (rY a)).mono ?_;grind [am7,jM,bA]
 simp_all [b3,bA]
end
def Wl (c:d.Pairwise (· < ·)) (e:∀g∈d,0<=g):∀a,(b:a<d.length)->(a:Z)<=d[a]:=by
 intro a
 induction a with
 |zero=>intro b;exact e _ (cT b)
 |succ a f=>
  intro b;have h:=f aa;have i:=B8.1 c a b;omega
def rL.length {a:amv} {c:X} (b:rL a c):a.length<=c:=by
 rcases rX a.length with d|d
 ·omega
 have g:=Wl b.1 (λf e=>(b.2 f e).1) (a.length-1) aa;have h:=(b.2 _ (cT (aa:a.length-1<a.length))).2;omega
def fL.rows (b:fL l):∀a∈l,a.length<=l.length:=by intro a c;obtain⟨e,d,rfl⟩:=hN.1 c;exact(b.asc e d).length
def fL.hc (b:fL l) (d:l.length<=200):∀a∈l,a.length<4611686018427387904:=λa c=>by have:=b.rows a c;omega
def vE:jl l=0↔l.length<=200/\fL l:=by
 unfold jl;by_cases a:200<l.length
 ·rw[ay a];constructor
  ·intro a;omega
  intro a;omega
 rw[aw a];by_cases b:fL l
 ·rw[ay b];exact⟨λ_=>⟨aa,b⟩,λ_=>rfl⟩
 rw[aw b];exact⟨λa=>by omega,λa=>absurd a.2 b⟩
def Su (a:ez) (b:X):Z:=((ho a b)[1]?).getD (-1)
section
def Ow (P:X->Prop):X->X
 |0=>0
 |k+1=>Ow P k+(open Classical in if P k then 1 else 0)
section
variable {P Q:X->Prop} {k:X}
end
def HP (n:X) (f:X->Z):Prop:=∀a,a<n->f a=-1\/((a:Z)<f a/\f a<n)
def Vz (n:X) (f:X->Z) (a b:X):Prop:=a<n/\f a=(b:Z)
def Sub (n:X) (f:X->Z) (a b:X):Prop:=Dh (Vz n f) a b
section
variable {n:X} {f:X->Z} (A:HP n f)
include A
def ig (n:X) (f:X->Z) (b:X):X:=Ow (λa=>Sub n f a b) n
def U3 (n:X) (f:X->Z):Prop:=∀a,a<n->∀b,Sub n f b a->a<b+ig n f a
end
end
section
section
variable {B:ez} (C:fL B) (A:B.length<=200)
include C A
end
def abk (b:amv) (n a:X):Z:=(b[a+1]?).getD n
section
variable {n:X} {f:X->Z} (D:HP n f) (A:n<=200)
include D A
end
end
section
theorem Xf (A:ez) (a:X):(ho A a).length<=A.length:=Xd A a A.length
section
variable {A:ez} (B:fL A) (C:A.length<=200)
include B C
end
end
section
section
variable {A:ez} (B:fL A) (C:A.length<=200)
include B C
theorem agj:Bf ((A,()),())=Y (aA A.length (ho A),0,()):=agi B (B.hc C) C
end
end
section
structure Ng (n:X) (f:X->Z) (Mq:amv) (m:X) (s e:X->X):Prop where
 len:Mq.length=m
 st:Mq=aA m λk=>(s k:Z)
 TG:0<n->0<m/\s 0=0
 ai9:n=0->m=0
 ok:∀k,k<m->s k<e k/\e k<=n/\e k<=s k+ig n f (e k-1)
 aT:∀k,k<m->abk Mq n k=(e k:Z)
 aiX:∀k,k+1<m->e k=s (k+1)
 el:∀k,k+1=m->e k=n
section
variable {A:ez} (B:fL A) (C:A.length<=200)
include B C
end
end
section
def iP (s:X->X) (a:X):X->Z
 |0=>-1
 |k+1=>if s k<=a then(k:Z) else iP s a k
abbrev eS:=Z×dS
section
variable {n:X} {f:X->Z} {B:amv} {m:X} {s e:X->X} (C:Ng n f B m s e)
include C
end
section
variable {A:ez} (D:fL A) (F:A.length<=200)
include D F
end
end
def Vp:∀a:X,a<201->Ev (1,(a:Z),())=Y (0,(a:Z),()):=by unfold Ev;decide+kernel
def VC (c:Z) (t:0<a) (u:a<=200):EK ([c],(a:Z),())=Y (bM a c,()):=by
 unfold EK;have ar:bG.wrap (a:Z)=(a:Z):=(by rw[MQ];omega);have m:bG.wrap ((1:X):Z)=1:=(by rw[MQ];rfl);have r:¬((a:Z)<0):=aa;have p:¬((a:Z)>9223372036854775807):=aa;simp only[de,aw r,aM,I2,ar,m,Vp a aa,DB,(aa:¬((0:Z)>0)),if_false,aG p,bQ,Hw (aa:a<9223372036854775808),jq (aa:a<=4294967296),rT,oV,aob];rw[<-bR];refine ah.aO (P:=λl=>l.1=bM a c) ?_ (by rintro⟨l,⟨⟩⟩ g;simp only at g;subst g;exact bA.2 bq);have s:∀b:X,b<=a->bM b c++bM (a-b) 0=aA a (λd=>if d<b then c else 0):=λb i=>(by rw[jV,jV,Bp];have:b+(a-b)=a:=aa;rw[this]);refine am3 (λf=>∃b:X,f.1=(b:Z)/\0<b/\b<=a/\f.2.1=aA a (λd=>if d<b then c else 0)) (λf=>a-f.1.toNat) ⟨1,?_,aa,aa,?_⟩ ?_
 ·show((min 1 a:X):Z)=1;rw[iZ aa];rfl
 ·show ka (bM a 0) [c] 0 a=_;unfold ka;rw[iZ (show[c].length<=a-0 by simp;omega),aoP,gJ (show[c].length<=a-0 by simp;omega),h3,arJ,jV];show[c]++aA (a-1) (λ_=>0)=_;have:[c]=aA 1 (λ_=>c):=rfl;rw[this,Bp];have:1+(a-1)=a:=aa;rw[this]
 rintro⟨f,w,⟨⟩⟩ ⟨b,i,v,q,k⟩;simp only at i k;subst i k;simp only[cI];by_cases g:b<a
 ·simp(disch:=omega) only[ay,yV,yG,SC,aM,jT,nC,Fz,cI];refine bA.2 ⟨⟨b+min b (a-b),UN aa,aa,aa,?_⟩,?_⟩
  ·show ka (aA a λd=>if d<b then c else 0) (aA b λd=>if d<b then c else 0) b a=_;unfold ka;have n:(aA b λd=>if d<b then c else 0)=aA b λ_=>c:=db λd h=>(by rw[ay h]);have o:(aA b λ(_:X)=>c).take (a-b)=aA (min b (a-b)) λ_=>c:=by
    rcases Nat.le_total (a-b) b with e|e
    ·rw[Fz _ _ _ e,Nat.min_eq_right e]
    rw[gJ (by rw[cI];exact e),iZ e]
   rw[Fz _ _ _ q,cI,n,o,Yx,Bp,Bp];have:b+(min b (a-b)+(a-(b+min b (a-b))))=a:=aa;rw[this];refine db λd h=>?_;by_cases e:d<b
   ·rw[ay e,ay aa]
   rw[aw e];by_cases j:d-b<min b (a-b)
   ·rw[ay j,ay aa]
   rw[aw j,aw aa,aw aa]
  show a-(bN.wrap ((b:Z)+((min b (a-b):X):Z))).toNat<a-(b:Z).toNat;rw[UN aa];omega
 simp(disch:=omega) only[aw];refine bA.2 ?_;show _=_;rw[jV];exact db λd h=>by rw[ay aa]
def cN (a:bp eS):X->X
 |0=>0
 |k+1=>((a[k]?).map λ(b:eS)=>b.2.1.toNat).getD 0
def rN (d:X) (c:bp eS) (b:X):Prop:=∃a:eS,c[b]?=Y a/\a.1=(cN c b:Z)/\(cN c b:Z)<a.2.1/\a.2.1<=(d:Z)
def oL (c:X) (a:bp eS):Prop:=(∀b,b<a.length->rN c a b)/\cN a a.length=c
theorem WN {b:bp eS} (c:a<b.length) (d:0<=b[a].2.1):(cN b (a+1):Z)=b[a].2.1:=by grind [bZ,cN]
theorem rN.at {b:bp eS} (i:a<b.length) (d:rN c b a):b[a].1=(cN b a:Z)/\b[a].2.1=(cN b (a+1):Z)/\cN b a<cN b (a+1)/\cN b (a+1)<=c:=by obtain⟨j,e,f,g,h⟩:=d;grind [WN,anV,bZ]
theorem WM {e:bp eS} (g:∀f,f<a->f<e.length/\rN c e f):∀d b,d<=b->b<=a->cN e d<=cN e b:=by
 intro d b m
 induction b with
 |zero=>grind
 |succ b k=>
  intro n;rcases c6 d (b+1) with h|h
  ·have l:=k aa aa;obtain⟨i,j⟩:=g b aa;have:=j.at i;omega
  grind
theorem Dv {b:bp eS} {m:X} (f:∀a,a<m->a<b.length/\rN k b a) (n:a<m) (h:cN b a<=c) (i:c<cN b (a+1)):∀d,a<d->d<=m->iP (cN b) c d=(a:Z):=by
 intro d
 induction d with
 |zero=>omega
 |succ e o=>
  intro j l;rcases c6 a e with g|g
  ·have:=WM f (a+1) e aa aa;grind [j5.iP]
  obtain rfl:e=a:=aa;simp_all [ay,j5.iP]
theorem Du {b:bp eS} (f:oL c b) (g:a<c):∃d,d<b.length/\cN b d<=a/\a<cN b (d+1):=by
 have h:∀e,e<=b.length->a<cN b e->∃d,d<e/\cN b d<=a/\a<cN b (d+1):=by
  intro e
  induction e with
  |zero=>intro _ f;exact absurd f (pI _)
  |succ e k=>
   grind
 obtain⟨d,i,j⟩:=h b.length (bf _) (by rw[f.2];exact g);grind
theorem Xi (b:bp eS) (D:a<=200) (C:b.length<4611686018427387904):ah (Fg (b,(a:Z),())) (λf=>(f.2.1=bt↔oL a b)/\(oL a b->f.1=aA a (λg=>iP (cN b) g b.length))):=by
 classical
 unfold Fg;refine ah.aO (P:=λv=>match v with|.inl f=>(∀c,c<b.length->rN a b c)/\f.1=aA (cN b b.length) (λg=>iP (cN b) g b.length)|.inr f=>¬oL a b/\f=([],bu,())) ?_ ?_
 ·refine ah.for b.length (λc w=>(∀d,d<c->d<b.length->rN a b d)/\w.1=aA (cN b c) (λg=>iP (cN b) g c)) (i0:=0) rfl ⟨λd e=>by omega,bq⟩ (eU _) ?_ ?_
  ·rintro c ⟨u,⟨⟩⟩ _ k ⟨p,i⟩;simp only at i;subst i;have q:∀d,d<c->d<b.length/\rN a b d:=λd o=>⟨aa,p d o aa⟩;have B:cN b c<=a:=by
    cases c with
    |zero=>exact eU _
    |succ c=>exact((q c aa).2.at aa).2.2.2
   have s:=gj (cH k);simp(disch:=omega) only[de,ay,s,aM,cI,fZ];have A:¬(b[c].1=(cN b c:Z)/\(cN b c:Z)<b[c].2.1/\b[c].2.1<=(a:Z))->¬oL a b:=λe l=>(by obtain⟨E,j,n⟩:=l.1 c k;grind);by_cases h:b[c].1=(cN b c:Z)
   ·by_cases x:b[c].2.1<=b[c].1
    ·simp only[h,anu,iI,show(bu==bu)=bt from rfl,bI,aJ (aa:b[c].2.1<=(cN b c:Z)),show(bt==bu)=bu from rfl,bQ,aM];grind [bA]
    by_cases m:b[c].2.1>(a:Z)
    ·simp only[h,anu,iI,show(bu==bu)=bt from rfl,bI,aG (aa:¬b[c].2.1<=(cN b c:Z)),aJ m,aM];grind [bA]
    have r:rN a b c:=⟨b[c],cH k,h,aa,aa⟩;obtain⟨j,n,y,z⟩:=r.at k;have t:bN.wrap (b[c].2.1-b[c].1)=((cN b (c+1)-cN b c:X):Z):=(by rw[j,n,aiC aa aa]);simp only[h,anu,iI,show(bu==bu)=bt from rfl,bI,aG (aa:¬b[c].2.1<=(cN b c:Z)),aG m,bQ,aM];rw[<-h];rw[t,VC _ aa aa];simp(disch:=omega) only[aM,rT,fe,lV,cI];refine bA.2 ⟨bq,λd o e=>?_,?_⟩
    ·grind
    show aA (cN b c) (λg=>iP (cN b) g c)++bM (cN b (c+1)-cN b c) (c:Z)=_;grind [db,jV,Bp,j5.iP,cN]
   simp only[aG h,oK,show(bt==bu)=bu from rfl,bQ,bI,aM];grind [bA]
  simp_all [de,aw,bA]
 rintro(⟨u,⟨⟩⟩|f) e
 ·obtain⟨j,i⟩:=e;simp only at i;subst i;simp only[cI];refine bA.2 ⟨?_,λl=>?_⟩
  ·show(((cN b b.length:X):Z)==(a:Z))=bt↔_;rw[beq_iff_eq];exact⟨λe=>⟨j,aa⟩,λe=>by have:=e.2;omega⟩
  show aA (cN b b.length) _=_;rw[l.2]
 grind [bA]
def r0 (c:X) (a:eS) (b:X):Prop:=∀d:b<a.2.2.1.length,(b<(a.2.1-a.1).toNat->a.2.2.1[b]=a.1+(b:Z))/\((a.2.1-a.1).toNat<=b->a.2.1<=a.2.2.1[b]/\a.2.2.1[b]<(c:Z)/\a.2.2.1[b-1]<a.2.2.1[b])
def m5 (c:X) (a:eS):Prop:=(a.2.1-a.1).toNat<=a.2.2.1.length/\∀b,0<=b->b<a.2.2.1.length->r0 c a b
theorem ag3 {n:X} {x:eS} (o:0<=x.1) (p:x.1<x.2.1) (q:x.2.1<=(n:Z)) (s:n<=200) (r:x.2.2.1.length<4611686018427387904):Fi (x,(n:Z),())=Y ((open Classical in decide (m5 n x)),()):=by
 classical
 obtain⟨b,j⟩:∃b:X,x.2.1-x.1=(b:Z):=⟨(x.2.1-x.1).toNat,aa⟩;have t:(x.2.1-x.1).toNat=b:=aa;unfold Fi;simp only[j,Hw (aa:b<9223372036854775808),de];by_cases l:b<=x.2.2.1.length
 ·rw[aw aa];refine aq (F8 (τ:=bz) x.2.2.1.length (r0 n x) () (.inl ()) (.inr (bu,())) 0 bq (eU _) ?_ ?_) ?_
  ·intro a _ i _;have h:=gj (cH i);rw[ay aa,h];simp only[aM,IM,fZ];by_cases m:a<b
   ·rw[ay aa,cA aa aa];simp only[aM];by_cases c:x.2.2.1[a]=x.1+(a:Z)
    ·have:r0 n x a:=λ_=>⟨λ_=>c,λg=>by omega⟩;rw[ay this,aJ c];simp(disch:=omega) only[iI,bQ,aw,aM,lV]
    simp_all [aw,aG,r0]
   rw[aw aa];simp only[aM,bQ];rw[ay aa];simp only[DB];have k:az x.2.2.1 (bN.wrap ((a:Z)-1))=Y (x.2.2.1[a-1]'(by omega)):=by grind [gj,bZ,CN]
   by_cases c:x.2.2.1[a]<x.2.1
   ·grind [r0]
   rw[aw c];by_cases e:x.2.2.1[a]>=(n:Z)
   ·grind [r0]
   rw[aw e,k];simp only[aM];by_cases f:x.2.2.1[a]<=x.2.2.1[a-1]
   ·grind [r0]
   have:r0 n x a:=λ_=>⟨λg=>by omega,λ_=>⟨aa,aa,aa⟩⟩;rw[ay this,aw f];grind [lV]
  ·grind
  by_cases d:∀a,0<=a->a<x.2.2.1.length->r0 n x a
  ·rw[ay d,aJ (show m5 n x from⟨aa,d⟩)]
  simp_all [aw,aG,m5]
 simp_all [ay,aG,m5]
def ir (a:bp eS) (b:Z):amv:=((a[b.toNat]?).map λ(c:eS)=>c.2.2.1).getD []
def oR (c:bp eS) (a:eS):Prop:=
 (a.2.2.1.length=(a.2.1-a.1).toNat/\a.2.2.2.1=-1)\/
 (∃d:(a.2.1-a.1).toNat<a.2.2.1.length,a.2.2.2.1=iP (cN c) (a.2.2.1[(a.2.1-a.1).toNat]).toNat c.length/\∀b,(a.2.1-a.1).toNat<=b->(e:b<a.2.2.1.length)->a.2.2.1[b]∈ir c a.2.2.2.1)
theorem m5.asc {b:eS} (f:0<=b.1) (g:b.1<b.2.1) (c:m5 a b):b.2.2.1.Pairwise (· < ·):=by rw[B8];intro e d;have aB:=c.2 e (eU _) aa aa;have h:=c.2 (e+1) (eU _) d d;grind
theorem zj {b:bp eS} (c:a<b.length):ir b (a:Z)=b[a].2.2.1:=by grind [am8,bZ,ir]
theorem MX {v:Z} (b:d.length<4611686018427387904) (c:d.Pairwise (· < ·)):∃a,vR (d,v,())=Y (a,bw (v∈d),()):=by obtain⟨⟨a,e,⟨⟩⟩,f,g⟩:=MY d v b c;grind
theorem aae {b:bp eS} (V:c<=200) (n:oL c b) (w:∀L∈b,L.2.2.1.length<4611686018427387904) (u:∀a,(r:a<b.length)->m5 c b[a]) (i:a<b.length):Fh (b,aA c (λz=>iP (cN b) z b.length),b[a],())=Y ((open Classical in decide (oR b b[a])),()):=by
 classical
 have t:=(n.1 a i).at i;have p:=u a i;have D:=w _ (cT i);generalize am:b[a]=d at t p D;obtain⟨N,O,P,Q⟩:=t;obtain⟨e,F⟩:∃e:X,d.2.1-d.1=(e:Z):=⟨(d.2.1-d.1).toNat,aa⟩;have x:(d.2.1-d.1).toNat=e:=aa;have G:=p.1;rw[x] at G;unfold Fh;simp(disch:=omega) only[F,Hw (aa:e<9223372036854775808),yV,aM,yG,jT,ik,oT,de,gV,fZ];by_cases R:d.2.2.1.length=e
 ·rw[ay aa];have:bw (d.2.2.2.1=-1)=bw (oR b d):=by
   simp_all [amD,oR]
  grind
 have o:e<d.2.2.1.length:=aa;have ad:=(p.2 e (eU _) o o).2 aa;obtain⟨k,y⟩:∃k:X,d.2.2.1[e]=(k:Z):=⟨(d.2.2.1[e]).toNat,aa⟩;have K:k<c:=aa;have A:az (d.2.2.1.drop e) 0=Y (k:Z):=(by grind [gj]);rw[aw aa];simp(disch:=omega) only[A,aM,sv];obtain⟨g,h,H,I⟩:=Du n K;have q:iP (cN b) k b.length=(g:Z):=Dv (m:=b.length) (λa i=>⟨i,n.1 a i⟩) h H I b.length h (bf _);rw[q];have T:oR b d↔d.2.2.2.1=(g:Z)/\∀f,0<=f->f<d.2.2.1.length-e->d.2.2.1.getD (e+f) 0∈b[g].2.2.1:=by
  unfold oR;rw[x];constructor
  ·rintro(r|⟨r,j,l⟩)
   ·omega
   rw[y,fV,q] at j;grind [bZ,zj]
  rintro⟨j,l⟩;refine .inr ⟨o,by rw[y,fV,q,j],λf s S=>?_⟩;rw[j,zj h];have:=l (f-e) (eU _) aa;grind
 by_cases s:d.2.2.2.1=(g:Z)
 ·simp only[s,anu,iI,bQ];have B:b[g].2.2.1.Pairwise (· < ·):=by
   have:=(n.1 g h).at h;exact(u g h).asc aa aa
  have J:=w _ (cT h);refine aq (F8 (τ:=bz) (d.2.2.1.length-e) (λf=>d.2.2.1.getD (e+f) 0∈b[g].2.2.1) () (.inl ()) (.inr (bu,())) 0 bq (eU _) ?_ ?_) ?_
  ·intro f _ U _;have j:az (d.2.2.1.drop e) (f:Z)=Y (d.2.2.1.getD (e+f) 0):=by
    grind [bZ,gj]
   have l:az b (g:Z)=Y b[g]:=gj (cH h);obtain⟨M,C⟩:=MX (v:=d.2.2.1.getD (e+f) 0) J B;rw[ay aa,j,l];simp only[aM,C];by_cases E:d.2.2.1.getD (e+f) 0∈b[g].2.2.1
   ·simp(disch:=omega) only[E,anu,iI,bQ,cq,lV]
   grind
  ·grind
  grind
 grind
section
theorem Xo {l:bp eS} (B:a<=200) (F:l.length<4611686018427387904) (e:oL a l) (D:∀i∈l,i.2.2.1.length<4611686018427387904):ED (l,(Y (a:Z),()),())=Y ((open Classical in decide (¬∀b,(d:b<l.length)->m5 a l[b])),()):=by
 classical
 rw[<-bR];unfold ED;refine ah.aO (P:=λh=>0<=h.1↔¬∀b,(d:b<l.length)->m5 a l[b]) ?_ ?_
 ·unfold I6;refine ah.aO (KK l.length (λb=>∀d:b<l.length,m5 a l[b]) ?_ ?_) ?_
  ·intro b c;have f:=gj (cH c);obtain⟨j,k,m,o⟩:=(e.1 b c).at c;have g:=ag3 (n:=a) (x:=l[b]) aa aa aa B (D _ (cT c));simp(disch:=omega) only[de,ay,f,aM,Jn,g];by_cases d:m5 a l[b]
   ·simp(disch:=omega) only[d,anu,iI,bQ,c,aqG,cq,lV]
   grind
  ·grind
  grind [bA]
 grind [bA,ge_iff_le]
theorem Xp {l:bp eS} (B:a<=200) (F:l.length<4611686018427387904) (e:oL a l) (D:∀k∈l,k.2.2.1.length<4611686018427387904) (f:∀b,(c:b<l.length)->m5 a l[b]):EE (l,(Y l,Y (aA a (λj=>iP (cN l) j l.length)),()),())=Y ((open Classical in decide (¬∀b,(c:b<l.length)->oR l l[b])),()):=by
 classical
 rw[<-bR];unfold EE;refine ah.aO (P:=λi=>0<=i.1↔¬∀b,(c:b<l.length)->oR l l[b]) ?_ ?_
 ·unfold I7;refine ah.aO (KK l.length (λb=>∀c:b<l.length,oR l l[b]) ?_ ?_) ?_
  ·intro b d;have g:=gj (cH d);have h:=aae B e D f d;simp(disch:=omega) only[de,ay,g,aM,Jo,h];by_cases c:oR l l[b]
   ·simp(disch:=omega) only[c,anu,iI,bQ,d,aqG,cq,lV]
   grind
  ·grind
  grind [bA]
 grind [bA,ge_iff_le]
def U8 (A:ez) (l:bp eS) (b a:X):Prop:=b<a->(a:Z)∈ir l (iP (cN l) b l.length)
def jg (A:ez) (l:bp eS):Prop:=oL A.length l/\(∀a,(d:a<l.length)->m5 A.length l[a])/\(∀a,(d:a<l.length)->oR l l[a])/\∀c b,kE A c b->U8 A l c b
def FA (A:ez) (l:bp eS):Z:=if jl A≠0 then jl A else(open Classical in if jg A l then 0 else 211)
section
variable {A:ez} (C:fL A) (B:A.length<=200) {l:bp eS} (F:l.length<4611686018427387904) (D:∀y∈l,y.2.2.1.length<4611686018427387904)
include C B F D
theorem YC:vW ((A,()),l,())=Y ((open Classical in if jg A l then 0 else 211),()):=by
 classical
 have I:=C.hc B;unfold vW;simp only[Hz A I,vE.2 ⟨B,C⟩,aM,fZ,anu,iI,bQ];obtain⟨⟨ap,T,⟨⟩⟩,z,t,u⟩:=Xi l B F;simp only at t u;simp only[z,aM,DB];by_cases f:oL A.length l
 ·have w:=t.2 f;have O:=u f;subst w O;simp only[iI,show(bu==bu)=bt from rfl,bI,Xo B F f D,aM];by_cases j:∀b,(d:b<l.length)->m5 A.length l[b]
  ·simp only[j,aqH,aoq,decide_false,bQ,aM,Xp B F f D j];by_cases q:∀b,(d:b<l.length)->oR l l[b]
   ·simp only[q,aqH,aoq,decide_false,bQ];have V:jg A l↔∀a,0<=a->a<A.length->∀d:a<A.length,∀b,0<=b->b<A[a].length->∀c:b<A[a].length,A[a][b]<=(a:Z)->(a:Z)∈ir l (iP (cN l) A[a][b].toNat l.length):=by
     constructor
     ·rintro⟨_,_,_,E⟩ a _ _ d b _ _ c M;have R:=(C.asc a d).2 _ (cT c);obtain⟨e,n⟩:∃e:X,A[a][b]=(e:Z):=⟨A[a][b].toNat,aa⟩;have o:kE A a e:=⟨d,n▸cT c⟩;have am:=o.ne C;rw[n,fV];exact E e a (kE.symm C _ _ o) aa
     intro d;refine⟨f,j,q,λe a o ad=>?_⟩;have S:=kE.symm C _ _ o;obtain⟨b,c,s⟩:=hN.1 S.2;grind
    rw[show(if jg A l then(0:Z) else 211)=if(∀a,0<=a->a<A.length->∀d:a<A.length,∀b,0<=b->b<A[a].length->∀c:b<A[a].length,A[a][b]<=(a:Z)->(a:Z)∈ir l (iP (cN l) A[a][b].toNat l.length)) then 0 else 211 from by grind];refine aq (F8 (τ:=amv×bz) A.length (λa=>∀d:a<A.length,∀b,0<=b->b<A[a].length->∀c:b<A[a].length,A[a][b]<=(a:Z)->(a:Z)∈ir l (iP (cN l) A[a][b].toNat l.length)) (aA A.length (λi=>iP (cN l) i l.length),()) (.inl ()) (.inr (211,())) 0 bq (eU _) ?_ ?_) ?_
    ·intro a _ k _;have J:=gj (cH k);have an:=C.rows _ (cT k);simp(disch:=omega) only[de,ay,J,aM];refine aq (F8 (τ:=amv×bz) A[a].length (λb=>∀c:b<A[a].length,A[a][b]<=(a:Z)->(a:Z)∈ir l (iP (cN l) A[a][b].toNat l.length)) (aA A.length (λi=>iP (cN l) i l.length),()) (.inl (aA A.length (λi=>iP (cN l) i l.length),())) (.inr (.inr (.inr (211,())))) 0 bq (eU _) ?_ ?_) ?_
     ·intro b _ c _;have K:=gj (cH c);have R:=(C.asc a k).2 _ (cT c);obtain⟨e,n⟩:∃e:X,A[a][b]=(e:Z):=⟨A[a][b].toNat,aa⟩;simp(disch:=omega) only[ay,K,aM,n,c,aqG,fV];by_cases r:(e:Z)>(a:Z)
      ·have:(e:Z)<=(a:Z)->(a:Z)∈ir l (iP (cN l) e l.length):=λd=>aa;rw[ay r,ay this];grind [lV]
      obtain⟨h,g,P,Q⟩:=Du f (aa:e<A.length);have L:iP (cN l) e l.length=(h:Z):=Dv (m:=l.length) (λb c=>⟨c,f.1 b c⟩) g P Q l.length g (bf _);have y:az l (h:Z)=Y l[h]:=gj (cH g);have G:l[h].2.2.1.Pairwise (· < ·):=(by have:=(f.1 h g).at g;exact(j h g).asc aa aa);obtain⟨U,H⟩:=MX (v:=(a:Z)) (D _ (cT g)) G;rw[aw r];simp(disch:=omega) only[sv,aM,L,y,H,zj g];have M:(e:Z)<=(a:Z):=aa;by_cases N:(a:Z)∈l[h].2.2.1
      ·simp(disch:=omega) only[N,anu,iI,bQ,aM,aqH,cq,lV]
      grind
     ·grind
     have s:(∀d:a<A.length,∀b,0<=b->b<A[a].length->∀c:b<A[a].length,A[a][b]<=(a:Z)->(a:Z)∈ir l (iP (cN l) A[a][b].toNat l.length))↔(∀b,0<=b->b<A[a].length->∀c:b<A[a].length,A[a][b]<=(a:Z)->(a:Z)∈ir l (iP (cN l) A[a][b].toNat l.length)):=⟨λp=>p k,λp _=>p⟩;by_cases x:∀b,0<=b->b<A[a].length->∀c:b<A[a].length,A[a][b]<=(a:Z)->(a:Z)∈ir l (iP (cN l) A[a][b].toNat l.length)
     ·simp(disch:=omega) only[ay x,ay (s.2 x),lV]
     grind
    ·grind
    grind
   have:¬jg A l:=λd=>q d.2.2.1;grind
  have:¬jg A l:=λd=>j d.2.1;grind
 have w:T=bu:=ae;have:¬jg A l:=λd=>f d.1;grind
end
section
variable {A:ez} (C:fL A) (B:A.length<=200) {l:bp eS} (F:l.length<4611686018427387904) (D:∀y∈l,y.2.2.1.length<4611686018427387904)
include C B F D
end
theorem Vh {A:ez} (c:∀l∈A,l.length<4611686018427387904) {l:bp eS} (F:l.length<4611686018427387904) (D:∀b∈l,b.2.2.1.length<4611686018427387904):vW ((A,()),l,())=Y (FA A l,()):=by
 unfold FA;by_cases a:jl A=0
 ·obtain⟨B,C⟩:=vE.1 a;rw[aw aa];grind [YC]
 simp_all [ay,Hz,aM,fZ,aG,oK,bI,vW]
end
section
def c8 (a:amu):amv:=a.map λ(b:X)=>(b:Z)
theorem wB (a b:amu):c8 (a++b)=c8 a++c8 b:=by simp[c8]
theorem jX (a:amu):(c8 a).length=a.length:=by simp[c8]
section
variable {n:X} {f:X->Z} (A:HP n f) (B:n<=200)
include A B
end
end
section
theorem yw {b:bp h} (d:a<b.length) (c:h):b.getD a c=b[a]:=by simp only[anF,cH d,xw]
section
variable {A:ez} (B:fL A) (C:A.length<=200)
include B C
end
end
section
theorem OF {A:ez} (B:fL A) (d:b∈ho A a):∃c:X,b=(c:Z)/\c<A.length/\a<=c:=by have e:=d;unfold ho vH at d;grind
section
variable {A:ez} (B:fL A) (C:A.length<=200)
include B C
section
variable {D:amv} {m:X} {s e:X->X} (F:U3 A.length (Su A)) (G:Ng A.length (Su A) D m s e)
include F G
end
def xh (a:bp eS) (c b:X):Prop:=b<a.length/\cN a b<=c/\c<cN a (b+1)
omit B C in
theorem xh.last {b:bp eS} (f:oL k b) (d:xh b c a):iP (cN b) c b.length=(a:Z):=
 Dv (m:=b.length) (λg e=>⟨e,f.1 g e⟩) d.1 d.2.1 d.2.2 b.length d.1 (bf _)
end
end
def jg.parent {b:bp eS} (r:jg l b) (g:a<b.length):(b[a].2.2.2.1=-1\/∃d:X,b[a].2.2.2.1=(d:Z)/\d<b.length)/\∀c,(e:c<b[a].2.2.1.length)->b[a].2.1<=b[a].2.2.1[c]->∃d:X,b[a].2.2.2.1=(d:Z)/\d<b.length/\b[a].2.2.1[c]∈ir b (d:Z):=by
 obtain⟨k,s,q,_⟩:=r;obtain⟨z,A,B,C⟩:=(k.1 a g).at g;have m:=s a g;rcases q a g with⟨i,f⟩|⟨i,f,p⟩
 ·refine⟨.inl f,λc e v=>?_⟩;have:=(m.2 c (eU _) e e).1 aa;omega
 have y:=(m.2 _ (eU _) i i).2 (bf _);obtain⟨h,o⟩:∃h:X,b[a].2.2.1[(b[a].2.1-b[a].1).toNat]=(h:Z):=⟨(b[a].2.2.1[(b[a].2.1-b[a].1).toNat]).toNat,aa⟩;rw[o] at y;obtain⟨d,n,w,x⟩:=Du k (aa:h<l.length);have u:=xh.last k (⟨n,w,x⟩:xh b h d);rw[o,fV,u] at f;refine⟨.inr ⟨d,f,n⟩,λc e v=>?_⟩;refine⟨d,f,n,?_⟩;have t:(b[a].2.1-b[a].1).toNat<=c:=by
  rcases c6 c (b[a].2.1-b[a].1).toNat with j|j
  ·have:=(m.2 c (eU _) e e).1 j;omega
  exact j
 have:=p c t e;rw[f] at this;exact this
structure pL {α:Type} (lt:α->α->bD):Prop where
 Wq:∀a b,lt a b=bt->lt b a=bu
 trans:∀a b c,lt b a=bu->lt c b=bu->lt c a=bu
theorem pL.int:pL (λa b:Z=>bw (a<b)):=⟨λa b d=>by grind,λa b c e f=>by grind⟩
def u1 {b:Type} (g:b->b->bD) (c:X->b) (e f:X):Prop:=∀d a,d<a->a<=e->a≠f->g (c a) (c d)=bu
def pN {b:Type} (f:b->b->bD) (c:X->b) (e:X):Prop:=∀d a,d<a->a<e->f (c a) (c d)=bu
def swp {c:Type} (b:X->c) (a:X):X->c:=eK (eK b a (b (a-1))) (a-1) (b a)
def T8 (b:X->h) (c:X):swp b a c=if c=a-1 then b a else if c=a then b (a-1) else b c:=rfl
def u1.swp {k:Type} {h:k->k->bD} (m:pL h) {f:X->k} {j a:X} (g:u1 h f j a) (q:0<a) (r:a<=j) (n:h (f a) (f (a-1))=bt):u1 h (swp f a) j (a-1):=by
 intro e b p i o;rw[T8,T8,aw o];by_cases c:b=a
 ·subst c;rw[ay bq];by_cases d:e=b-1
  ·rw[ay d];exact m.Wq _ _ n
  rw[aw d,aw aa];exact g e (b-1) aa aa aa
 rw[aw c];by_cases d:e=a-1
 ·rw[ay d];exact g a b aa i c
 rw[aw d];by_cases l:e=a
 ·rw[ay l];exact g (a-1) b aa i c
 rw[aw l];exact g e b p i c
theorem u1.done {e:h->h->bD} (k:pL e) {b:X->h} (j:u1 e b c a) (n:a<=c) (d:a=0\/e (b a) (b (a-1))=bu):pN e b (c+1):=by
 intro g f l o;by_cases i:f=a
 ·subst i;rcases d with d|d
  ·omega
  by_cases m:g=f-1
  ·grind
  exact k.trans _ _ _ (j g (f-1) aa aa aa) d
 exact j g f l aa i
theorem T9 {b:X->h} (f:0<a) (g:a<c):(aA c (swp b a)).Perm (aA c b):=by have d:a<(aA c b).length:=(by grind [cI]);have e:a-1<(aA c b).length:=aa;have:=List.set_set_perm d e;rw[lK,lK,hq,hq] at this;exact this
theorem Fy [Inhabited h] (a:bp h):a=aA a.length (λb=>a[b]?.getD default):=Yz a _ (λb c=>by grind)
theorem ZE (b:amv) (C:b.length<=1000):ah (EM (b,0,(b.length:Z),())) (λd=>∃a,d.1=aA b.length a/\pN (λf g=>bw (f<g)) a b.length/\d.1.Perm b):=by
 unfold EM;simp only[];generalize t:b.length=c at*;have u:bN.wrap (0+1)=((1:X):Z):=(by grind [cA]);rw[u];rcases rX c with z|w
 ·subst z;refine ah.aO (P:=λd=>d.1=b) ?_ ?_
  ·refine am3 (λj=>j=(((1:X):Z),b,())) (λ_=>0) rfl ?_;rintro _ rfl;simp only[de];rw[aw aa];grind [bA]
  rintro⟨d,_⟩ rfl;refine bA.2 ⟨λ_=>0,?_,λm n o p=>by omega,aoU _⟩;show d=[];grind
 refine ah.aO (P:=λd=>∃a,d.1=aA c a/\pN (λf g=>bw (f<g)) a c/\d.1.Perm b) ?_ (λd y=>bA.2 y);refine ah.for c (λh A=>∃a,A=(aA c a,())/\pN (λf g=>bw (f<g)) a h/\(aA c a).Perm b) rfl ⟨λh=>b[h]?.getD default,?_,λm n o p=>by omega,?_⟩ w ?_ ?_
 ·rw[<-t,<-Fy]
 ·rw[<-t,<-Fy]
 ·rintro h _ o p ⟨a,rfl,q,i⟩;simp only[de];rw[ay aa];refine ah.aO (P:=λd=>∃a,d=(aA c a,())/\pN (λf g=>bw (f<g)) a (h+1)/\(aA c a).Perm b) ?_ ?_
  ·refine am3 (λj=>∃(e:X) (a:X->Z),j=((e:Z),aA c a,())/\e<=h/\u1 (λf g=>bw (f<g)) a h e/\(aA c a).Perm b) (λj=>j.1.toNat) ⟨h,a,bq,bf _,λm n x E D=>q m n x aa,i⟩ ?_;rintro _ ⟨e,a,rfl,l,k,i⟩;simp only[IM];by_cases r:0<e
   ·have B:e-1<c:=aa;have v:e<c:=aa;simp(disch:=omega) only[ay,cI,CN,e4,hb,aM,Na,de];by_cases s:a e<a (e-1)
    ·rw[ay s];simp(disch:=omega) only[aM,cI,CN,e4,hb,hq];refine bA.2 ⟨⟨e-1,swp a e,bq,aa,k.swp pL.int r l ae,(T9 r v).trans i⟩,?_⟩;omega
    rw[aw s];exact bA.2 ⟨a,bq,k.done pL.int l (.inr ae),i⟩
   rw[aw aa];exact bA.2 ⟨a,bq,k.done pL.int l (.inl aa),i⟩
  grind [lV,bA]
 rintro _ ⟨a,rfl,q,i⟩;simp only[de];rw[aw aa];grind [bA]
theorem pN.pairwise {b:X->Z} (e:pN (λc d=>bw (c<d)) b a):(aA a b).Pairwise (· <= ·):=by rw[iw];intro g h i j f;rw[lK,lK];have:=e g h f (by grind [cI]);grind
theorem M9 (a:X) (c:a<=12):∃b,Eu ((a:Z),())=Y (b,()):=by
 have:a=0\/a=1\/a=2\/a=3\/a=4\/a=5\/a=6\/a=7\/a=8\/a=9\/a=10\/a=11\/a=12:=aa;rcases this with rfl|rfl|rfl|rfl|rfl|rfl|rfl|rfl|rfl|rfl|rfl|rfl|rfl
 ·exact⟨0,by kernel_rfl⟩
 ·exact⟨1,by kernel_rfl⟩
 ·exact⟨2,by kernel_rfl⟩
 ·exact⟨2,by kernel_rfl⟩
 ·exact⟨3,by kernel_rfl⟩
 ·exact⟨3,by kernel_rfl⟩
 ·exact⟨3,by kernel_rfl⟩
 ·exact⟨3,by kernel_rfl⟩
 ·exact⟨4,by kernel_rfl⟩
 ·exact⟨4,by kernel_rfl⟩
 ·exact⟨4,by kernel_rfl⟩
 ·exact⟨4,by kernel_rfl⟩
 exact⟨4,by kernel_rfl⟩
theorem aeu (a:amv) (c:Z) (h:a.length<=12):ah (EP (a,0,(a.length:Z),c,())) (λb=>b.1.Pairwise (· <= ·)/\b.1.Perm a):=by obtain⟨b,i,g,f,e,d⟩:=ZE a aa;refine⟨b,?_,by rw[f];exact e.pairwise,d⟩;unfold EP;dsimp only;rw[QK];dsimp only;have j:bN.wrap ((a.length:Z)-0)=((a.length:X):Z):=(by rw[apo];grind [Hw]);grind
theorem VE (a:amv) (c:a.length<=12):ah (AW (a,())) (λb=>b.1.Pairwise (· <= ·)/\b.1.Perm a):=by grind [ah.aO,aeu,bA,M9,MR,AW]
end Go.j5
end
