/-
  Parts of the proof: Pm3, Pm4, Pm5, Pm6, Pm7, Pm8, Pm9, Pm10, Pm11, Pm12, Pl13, Th2, Pl16, Pl18, Th3, Pl20, Pl21, Pl22, Pl23, Pl24, Pl25, Pl26, Pl27, Pl29, Pl30, Pl32, Pl36, Pl40, Pl41, Pl42, Pl43, Pm13, Pl46, Pl48, Pl50, Pl51, Pl54, Pm14, Pm15, Pm16, Pm17, Pm18, Pm22, Pm24, Pm25, Pm26, Pm27, Pm29, Pm30, Pm36, Pm52, Pm55, Pm57, Pm70, Pm71, Pm72, Pm73, Pm74, Pm75, Pm76, Pm77, Pm78, Pm79, Pm80, Pm81, Th5, Th6, Pm82, Pm83, Pm90, Pm38, Pm41, Pm42, Pm91, Pm84, Pm85, Pm86, Pm87, Pm88, Pm92, Pm93, Pm94: the framework (Fw), pure forms (Dn), plain laws (Pl, Th), calls of functions (Ok).
-/
import Derived.KernelRfl
import Derived.Test.YtnndjinceoekdaaGreatDoorB93bc084b

set_option linter.all false
set_option maxHeartbeats 1000000
open _root_ renaming Nat->X,Int->Z,Bool->bA,Unit->bt,decide_eq_false->aiO,decide_eq_true->aij,rfl->bn,cond_false->bP,List->bm,beq_self_eq_true->aiN,cond_true->bG,if_pos->cb,decide_eq_true_eq->aiF,congrArg->b4,False->b6,decide_true->aiK,decide_eq_decide->cy,if_true->cj,forall_const->alg,implies_true->amb,not_true_eq_false->aj1,not_not_intro->aii,Option->bv,Decidable->aiU,if_neg->cn,and_true->b9
open Option renaming some->Y,none->bo,bind_some->bM,map_some->ajZ,bind->bB
open Go.jg.ae renaming eq_iff->bQ,aK->bD,bs->bz,af->bu,steps->bL,ite->aim,e6->bX,mono->cz,fb->bZ,loop->aiA
open Bool renaming false->bq,true->bp
open Decidable renaming decide->br
open Int renaming eq_ofNat_of_zero_le->cB,toNat_natCast->aiT,toNat->aiL,mul_ediv_cancel->al3,mul_ne_zero->ann,mul_zero->akj,natAbs_mul->ajY,add_mul->ak7,mul_comm->aji
open Nat renaming lt_or_ge->cl,zero_le->al8,le_refl->cd,le_trans->cu,mul_add_div->anh,div_eq_of_lt->al6,mul_le_mul->alc,lt_irrefl->akf,not_lt_zero->alf,ble->b2,ble_eq_true_of_le->ank,add_comm->aj7,beq->bH,and_two_pow_sub_one_eq_mod->alW,add_assoc->ajL
open List renaming length_append->aiP,append_assoc->aiQ,pairwise_append->ang,pairwise_iff_getElem->aih,getElem_mem->b7,take_add_one->cr,getElem?_eq_getElem->bS,map_append->ak9,take_of_length_le->ch,length_filter_le->aiH,filter_eq_nil_iff->ala,mem_take_iff_getElem->aj0,length_take->air,take_sublist->alb,filter_eq_self->ajH,range->bI,getD->aiZ,replicate->bJ,map_const'->al9,map_congr_left->aiy,getElem?_eq_none->ajU,mem_cons_self->ama,pairwise_cons->aj8,length_map->cg,filter_nil->ald,getElem_set->anj,mem_singleton->aik,take_length->cA,length_set->akl,range_succ->aiI,getElem_inj->ajC,length_range->ajj,mem_iff_getElem->ai8,mem_of_find?_eq_some->anl,take_append_drop->ajM,decidableBAll->ano,mem_of_getElem?->aiw,drop_eq_nil_of_le->al2,getElem?_eq_some_iff->aiV,map_nil->ajs,filter->akh,flatMap_def->anp,range'->ain,Nodup->ali,range_eq_range'->amc,mem_append_right->akR,getElem?_inj->akK,map_take->amd,set_append_right->ak3,length_singleton->akt,length_range'->ame,range'_concat->alj,foldl_cons->aku,length->aiq
open List.Pairwise renaming nil->akH,sublist->ani
open Go.IntKind renaming u64->bE,i64->bK
open List.Sublist renaming filter->anI,append->anJ,refl->anK
open Go.jg.jP renaming symm->ale
open Option.some renaming injEq->aju,inj->ai1
open Go.jg renaming wrap64->ct
open List.Perm renaming refl->aks,append_left->akT
open Go.Lib renaming compact->ai6,keeps->alh
open List.Nodup renaming sublist->anm
open BitVec renaming ofInt->ck
noncomputable section
namespace Go.jg
variable{a b h r:X}{c f g v:aif}{d k P:Z}{e n:aie}{j:Type}{l:ew}{p:Z->Prop}{s:X->X->bA}{w:X->Prop}{x:eu}{y:aib}{z:aif×bA×bt}{O:ah9}
section
theorem T6 (a0:b<=200) (an:a<=200) (H:c.length<=10000) (Q:f.length<=1000000) (a4:g.length<=1000000):CP (((b:Z),(a:Z),f,c,g,()),())=Y (open Classical in decide (gq b a f c g),()):=by
 classical
 unfold CP;refine bQ.1 ?_;dsimp only;have O:aP (a:Z)=((a+1:X):Z):=bi aa;have am:∀(j:¬gq b a f c g),(bq,())=(br (gq b a f c g),()):=λj=>(by rw[aiO j]);refine bD (P:=λm=>match m with
  |.inl _=>f.length=a+1/\f.getD 0 0=0/\(∀d,d<a->f.getD d 0<=f.getD (d+1) 0)/\f.getD a 0=(c.length:Z)/\g.length=c.length
  |.inr o=>o=(bq,())/\¬gq b a f c g) ?_ ?_
 ·rw[O,fO];by_cases A:f.length=a+1
  ·rw[aL (show al f=((a+1:X):Z) by grind)];refine bz (y:=f.getD 0 0) (gY (i:=0) aa) ?_;rw[fO];by_cases q:f.getD 0 0=0
   ·rw[aL q];refine bz (adj Q) ?_;dsimp only;by_cases r:∀p,p+1<f.length->f.getD p 0<=f.getD (p+1) 0
    ·rw[aij r];refine bz (y:=f.getD a 0) (gY aa) ?_;rw[fO];by_cases s:f.getD a 0=(c.length:Z)
     ·rw[aL (show f.getD a 0=al c from s),fO];by_cases B:c.length=g.length
      ·grind [bu,aL,bf]
      rw[aI (show¬al c=al g by grind)];exact bu.2 ⟨bn,λj=>B j.val.symm⟩
     rw[aI (show¬f.getD a 0=al c from s)];exact bu.2 ⟨bn,λj=>s j.last⟩
    rw[aiO r];exact bu.2 ⟨bn,λj=>r λp H=>j.mono p aa⟩
   rw[aI q];exact bu.2 ⟨bn,λj=>q j.first⟩
  rw[aI (show¬al f=((a+1:X):Z) by grind)];exact bu.2 ⟨bn,λj=>A j.len⟩
 rintro(m|m) w
 rotate_left
 ·grind [bu]
 obtain⟨A,q,r,s,B⟩:f.length=a+1/\f.getD 0 0=0/\(∀d,d<a->f.getD d 0<=f.getD (d+1) 0)/\f.getD a 0=(c.length:Z)/\g.length=c.length:=w;have F:∀d,d<=a->0<=f.getD d 0:=λd=>by
  induction d with
  |zero=>omega
  |succ d R=>grind
 have w:∀u d,d+u=a->f.getD d 0<=(c.length:Z):=λu=>by
  induction u with
  |zero=>grind
  |succ u R=>grind
 dsimp only;refine bD (P:=λm=>match m with
  |.inl _=>(∀d,d<a->ki (b:Z) f c d)
  |.inr o=>o=(bq,())/\¬(∀d,d<a->ki (b:Z) f c d)) ?_ ?_
 ·refine bL a (λp x=>x=((p:Z),())/\∀d,d<p->ki (b:Z) f c d) ⟨bn,λd L=>by omega⟩ ?_ ?_
  ·rintro d _ L ⟨rfl,C⟩;dsimp only;rw[aY (aL (aa:(d:Z)<(a:Z))),bi aa];obtain⟨e,N⟩:=cB (F d aa);obtain⟨n,K⟩:=cB (F (d+1) aa);have E:n<=c.length:=(by have:=w (a-(d+1)) (d+1) aa;omega);have av:e<=n:=(by grind);refine bz (y:=(e:Z)) (by rw[gY aa,N]) (bz (y:=(n:Z)) (by rw[gY aa,K]) (bz (y:=(e,n)) (by grind [vh,p8]) ?_));dsimp only;have ap:=adc (l:=c) (lo:=e) E;refine bD (P:=λm=>match m with
    |.inl _=>ki (b:Z) f c d
    |.inr o=>o=.inr (.inr (bq,()))/\¬ki (b:Z) f c d) ?_ ?_
   ·refine bL (n-e) (λh x=>x=((if h=0 then-1 else c.getD (e+h-1) 0),(h:Z),())/\∀k:X,e<=k->k<e+h->(if(k:Z)=f.getD d 0 then-1 else c.getD (k-1) 0)<c.getD k 0/\c.getD k 0<(b:Z)) ⟨bn,λk C D=>by omega⟩ ?_ ?_
    ·rintro h _ a3 ⟨rfl,D⟩;have J:=(adb (l:=c) (lo:=e) (hi:=n) (t:=h) E aa).2;have M:(if h=0 then-1 else c.getD (e+h-1) 0)=(if((e+h:X):Z)=f.getD d 0 then-1 else c.getD (e+h-1) 0):=by
      omega
     dsimp only;rw[aY (aL (show(h:Z)<al ((c.take n).drop e) by grind)),M];refine bD (P:=λm=>match m with
      |.inl o=>o=(c.getD (e+h) 0,())/\((if((e+h:X):Z)=f.getD d 0 then-1 else c.getD (e+h-1) 0)<c.getD (e+h) 0/\c.getD (e+h) 0<(b:Z))
      |.inr o=>o=.inr (.inr (.inr (.inr (bq,()))))/\¬((if((e+h:X):Z)=f.getD d 0 then-1 else c.getD (e+h-1) 0)<c.getD (e+h) 0/\c.getD (e+h) 0<(b:Z))) ?_ ?_
     ·refine bz (y:=c.getD (e+h) 0) (gN J) ?_;generalize(if((e+h:X):Z)=f.getD d 0 then-1 else c.getD (e+h-1) 0)=V;generalize c.getD (e+h) 0=z;by_cases I:z<=V
      ·grind [bu,aL]
      rw[aI I];by_cases ad:z>=(b:Z)
      ·grind [bu,aL]
      grind [aI,bu]
     rintro(m|m) G
     ·obtain⟨rfl,v⟩:=G;refine bu.2 ⟨?_,?_⟩
      ·rw[bi aa,az aa];rfl
      intro k S T;rcases cQ k (e+h) with U|U
      ·grind
      obtain rfl:k=e+h:=aa;exact v
     obtain⟨rfl,v⟩:=G;refine bu.2 ⟨bn,λj=>v ?_⟩;exact j (e+h) aa aa
    rintro _ ⟨rfl,D⟩;dsimp only;rw[a1 (aI (show¬(((n-e:X):Z)<al ((c.take n).drop e)) by grind))];refine bu.2 ?_;intro k S T;simp_all
   grind [bu,cl]
  rintro _ ⟨rfl,C⟩;simp_all [bu,a1,aI]
 grind [bu,aij,gq.iff]
def nW (b:aif):Prop:=∀a,a<b.length->cE (b.getD a 0)≠2047
open Classical in
def gz (d b:X) (e c a:aif):Z:=if gq d b e c a then if nW a then 0 else 4 else 1
theorem K5.getD {a:aif} (e:∀d∈a,eP d) (c:X):eP (a.getD c 0):=by
 rcases cQ c a.length with b|b
 ·grind
 rw[o1 b];exact⟨ab,ab⟩
theorem X5 (j:∀m∈c,eP m) (o:c.length<=1000000):CS (c,(),())=Y (open Classical in decide (¬nW c),()):=by
 classical
 unfold CS;refine bQ.1 ?_;refine bD (P:=λd=>∃e,d=(e,())/\(0<=e↔¬nW c)) ?_ ?_
 ·unfold G0;dsimp only;refine bD (P:=λk=>match k with|.inl _=>nW c|.inr d=>0<=d.1/\¬nW c) ?_ ?_
  ·refine bL c.length (λa l=>l=((a:Z),())/\∀b,b<a->cE (c.getD b 0)≠2047) ⟨bn,λb n=>by omega⟩ ?_ ?_
   ·rintro a _ h ⟨rfl,g⟩;dsimp only;rw[aY (aL (show(a:Z)<al c by grind))];refine bz (gY h) ?_;unfold GY;refine bz (y:=(br (cE (c.getD a 0)=2047),())) (ai (Af (K5.getD j a)) (by grind)) ?_;dsimp only;rw[cO];refine aim (λf=>?_) λf=>?_
    ·exact bu.2 ⟨aa,λi=>i a h f⟩
    grind [bu,bi,cl]
   rintro _ ⟨rfl,g⟩;dsimp only;rw[a1 (aI (show¬((c.length:Z)<al c) by grind))];exact bu.2 g
  grind [bu]
 rintro _ ⟨e,rfl,p⟩;refine bu.2 ?_;grind
theorem Xn (j:b<=200) (h:a<=200) (i:f.length<=10000) (k:g.length<=1000000) (e:c.length<=1000000) (l:∀m∈c,eP m):sx (((b:Z),(a:Z),g,f,c,()),())=Y (gz b a g f c,()):=by
 classical
 unfold sx gz;dsimp only;refine ai (y:=(bq,())) ?_ ?_
 ·unfold CR;grind
 dsimp only;rw[bP];refine ai (T6 j h i k e) ?_;dsimp only;by_cases d:gq b a g f c
 ·rw[aij d,au d];refine ai (X5 l e) ?_;grind
 grind
end
theorem acv (h:∀l∈c,eP l) (n:c.length<=1000000):Dq (c,())=Y (open Classical in decide (nW c),()):=by
 classical
 unfold Dq;refine bQ.1 ?_;dsimp only;refine bD (P:=λi=>match i with|.inl _=>nW c|.inr j=>j=(bq,())/\¬nW c) ?_ ?_
 ·refine bL c.length (λa k=>k=((a:Z),())/\∀b,b<a->cE (c.getD b 0)≠2047) ⟨bn,λb m=>by omega⟩ ?_ ?_
  ·rintro a _ f ⟨rfl,e⟩;dsimp only;rw[aY (aL (show(a:Z)<al c by grind))];refine bz (gY f) (bz (A2 (K5.getD h a)) ?_);dsimp only;rw[Bool.not_not,cO];refine aim (λd=>?_) λd=>?_
   ·exact bu.2 ⟨bn,λg=>g a f d⟩
   grind [bu,bi,cl]
  rintro _ ⟨rfl,e⟩;dsimp only;rw[a1 (aI (show¬((c.length:Z)<al c) by grind))];exact bu.2 e
 grind [aij,bu,aiO]
theorem ab4 (bl:b<=200) (an:a<=200) (ap:f.length<=10000) (bx:c.length<=1000000) (R:g.length<=1000000) (S:∀ad∈g,eP ad):q5 (((b:Z),(a:Z),c,f,g,()),())=Y (gz b a c f g,()):=by
 classical
 unfold q5;refine bQ.1 ?_;dsimp only;have Q:aP (a:Z)=((a+1:X):Z):=bi aa;have am:∀(l:¬gq b a c f g),((1:Z),())=(gz b a c f g,()):=λl=>(by unfold gz;grind);refine bz (y:=.inl ()) ?_ ?_
 ·grind
 dsimp only;refine bD (P:=λk=>match k with
  |.inl _=>c.length=a+1/\c.getD 0 0=0/\c.getD a 0=(f.length:Z)/\g.length=f.length
  |.inr m=>m=((1:Z),())/\¬gq b a c f g) ?_ ?_
 ·rw[Q,fO,fO];by_cases B:g.length=f.length
  ·rw[aL (show al g=al f by grind)];by_cases A:c.length=a+1
   ·rw[aL (show al c=((a+1:X):Z) by grind)];refine bz (y:=c.getD 0 0) (gY (i:=0) aa) ?_;rw[fO];by_cases q:c.getD 0 0=0
    ·rw[aL q];refine bz (y:=c.getD a 0) (gY aa) ?_;rw[fO];by_cases u:c.getD a 0=(f.length:Z)
     ·grind [bu,aL]
     rw[aI (show¬c.getD a 0=al f from u)];exact bu.2 ⟨bn,λl=>u l.last⟩
    rw[aI q];exact bu.2 ⟨bn,λl=>q l.first⟩
   rw[aI (show¬al c=((a+1:X):Z) by grind)];exact bu.2 ⟨bn,λl=>A l.len⟩
  rw[aI (show¬al g=al f by grind)];exact bu.2 ⟨bn,λl=>B l.val⟩
 rintro(k|k) r
 rotate_left
 ·grind [bu]
 obtain⟨A,q,u,B⟩:c.length=a+1/\c.getD 0 0=0/\c.getD a 0=(f.length:Z)/\g.length=f.length:=r;dsimp only;refine bD (P:=λk=>match k with
  |.inl _=>(∀d,d<a->c.getD d 0<=c.getD (d+1) 0)
  |.inr m=>m=((1:Z),())/\¬gq b a c f g) ?_ ?_
 ·refine bL a (λp t=>t=((p:Z),())/\∀d,d<p->c.getD d 0<=c.getD (d+1) 0) ⟨bn,λd z=>by omega⟩ ?_ ?_
  ·rintro d _ z ⟨rfl,x⟩;dsimp only;rw[aY (aL (aa:(d:Z)<(a:Z))),bi aa];refine bz (gY aa) (bz (gY aa) ?_);rw[cO];refine aim (λw=>?_) λw=>?_
   ·exact bu.2 ⟨bn,λl=>by have:=l.mono d z;omega⟩
   grind [bu,cl]
  rintro _ ⟨rfl,x⟩;simp_all [bu,a1,aI]
 rintro(k|k) r
 rotate_left
 ·grind [bu]
 have M:∀d,d<a->c.getD d 0<=c.getD (d+1) 0:=r;have J:∀d,d<=a->0<=c.getD d 0:=λd=>by
  induction d with
  |zero=>omega
  |succ d K=>grind
 have r:∀v d,d+v=a->c.getD d 0<=(f.length:Z):=λv=>by
  induction v with
  |zero=>grind
  |succ v K=>grind
 dsimp only;refine bD (P:=λk=>match k with
  |.inl _=>(∀d,d<a->ki (b:Z) c f d)
  |.inr m=>m=((1:Z),())/\¬(∀d,d<a->ki (b:Z) c f d)) ?_ ?_
 ·refine bL a (λp t=>t=((p:Z),())/\∀d,d<p->ki (b:Z) c f d) ⟨bn,λd z=>by omega⟩ ?_ ?_
  ·rintro d _ z ⟨rfl,x⟩;dsimp only;rw[aY (aL (aa:(d:Z)<(a:Z))),bi aa];obtain⟨e,a3⟩:=cB (J d aa);obtain⟨o,O⟩:=cB (J (d+1) aa);have av:o<=f.length:=(by have:=r (a-(d+1)) (d+1) aa;omega);have a0:e<=o:=(by grind);have G:ao c (d:Z)=Y (e:Z):=(by grind [gY]);have H:ao c ((d+1:X):Z)=Y (o:Z):=(by rw[gY aa,O]);refine bz G ?_;refine bD (P:=λk=>match k with
    |.inl _=>ki (b:Z) c f d
    |.inr m=>m=.inr (.inr ((1:Z),()))/\¬ki (b:Z) c f d) ?_ ?_
   ·refine bL (o-e) (λh t=>t=(((e+h:X):Z),())/\∀j:X,e<=j->j<e+h->(if(j:Z)=c.getD d 0 then-1 else f.getD (j-1) 0)<f.getD j 0/\f.getD j 0<(b:Z)) ⟨bn,λj x n=>by omega⟩ ?_ ?_
    ·rintro h _ ce ⟨rfl,n⟩;dsimp only;refine bz H ?_;rw[aY (aL (aa:((e+h:X):Z)<(o:Z)))];have C:ao f ((e+h:X):Z)=Y (f.getD (e+h) 0):=gY aa;have a4:h≠0->0<=f.getD (e+h-1) 0:=λV=>by
      have U:∀j:X,e<=j->j<e+h->0<=f.getD j 0:=by
       intro j
       induction j with
       |zero=>
        grind
       |succ j K=>
        intro D E;have I:=(n (j+1) D E).1;by_cases w:((j+1:X):Z)=c.getD d 0
        ·omega
        grind
      exact U _ aa aa
     refine bD (P:=λk=>match k with
      |.inl _=>((if((e+h:X):Z)=c.getD d 0 then-1 else f.getD (e+h-1) 0)<f.getD (e+h) 0/\f.getD (e+h) 0<(b:Z))
      |.inr m=>m=.inr (.inr (.inr (.inr ((1:Z),()))))/\¬((if((e+h:X):Z)=c.getD d 0 then-1 else f.getD (e+h-1) 0)<f.getD (e+h) 0/\f.getD (e+h) 0<(b:Z))) ?_ ?_
     ·refine bz C ?_;by_cases F:f.getD (e+h) 0<0
      ·rw[aL F];refine bu.2 ⟨bn,λl=>?_⟩;omega
      rw[aI F];refine bz C ?_;by_cases L:f.getD (e+h) 0>=(b:Z)
      ·grind [bu,aL]
      rw[aI L];refine bz G ?_;by_cases V:h=0
      ·rw[aI (aa:¬((e+h:X):Z)>(e:Z))];refine bu.2 ⟨?_,aa⟩;omega
      rw[aL (aa:((e+h:X):Z)>(e:Z))];have aq:ax (((e+h:X):Z)-1)=((e+h-1:X):Z):=(by rw[cL aa aa];omega);refine bz C (bz (y:=f.getD (e+h-1) 0) (by rw[aq];exact gY aa) ?_);rw[cO];refine aim (λw=>?_) λw=>?_
      ·refine bu.2 ⟨bn,λl=>?_⟩;omega
      refine bu.2 ⟨?_,aa⟩;omega
     rintro(k|k) s
     ·refine bu.2 ⟨by rw[bi aa];rfl,?_⟩;intro j D E;rcases cQ j (e+h) with T|T
      ·grind
      obtain rfl:j=e+h:=aa;omega
     obtain⟨rfl,I⟩:=s;exact bu.2 ⟨bn,λl=>I (l (e+h) aa aa)⟩
    rintro _ ⟨rfl,n⟩;dsimp only;refine bz H ?_;rw[a1 (aI (aa:¬(((e+(o-e):X):Z)<(o:Z))))];refine bu.2 ?_;intro j D E;simp_all
   grind [bu,cl]
  rintro _ ⟨rfl,x⟩;simp_all [bu,a1,aI]
 rintro(k|k) s
 ·have s:(∀d,d<a->ki (b:Z) c f d):=s;have N:gq b a c f g:=gq.iff.2 ⟨A,q,M,u,B,s⟩;refine bz (acv S R) ?_;unfold gz;rw[au N];by_cases n:nW g
  ·rw[aij n,au n];grind [bu]
  rw[aiO n,az n];grind [bu]
 grind [bu,gq.iff]
abbrev cU:=Z×Z×Z×bt
variable{t:bm cU}{u:cU}
def iP (b d:aif) (c:Z) (a:X):X->bm cU
 |0=>[]
 |n+1=>iP b d c a n++[(b.getD (a+n) 0,c,d.getD (a+n) 0,())]
def c6 (a b c:aif):X->bm cU
 |0=>[]
 |j+1=>c6 a b c j++iP b c (j:Z) (a.getD j 0).toNat ((a.getD (j+1) 0).toNat-(a.getD j 0).toNat)
theorem MD (c f:aif) (d:Z) (e a:X):(iP c f d e a).length=a:=by
 induction a with
 |zero=>rfl
 |succ a b=>simp[iP,b]
def gq.pos (e:gq b a c f g):∀d,d<=a->0<=c.getD d 0:=λd=>by
 have:=e.first
 induction d with
 |zero=>omega
 |succ d h=>intro i;have:=h aa;have:=e.mono d aa;omega
theorem gq.p9 (h:gq b a f c g):∀d,d<=a->f.getD d 0<=(c.length:Z):=by
 have k:∀e d,d+e=a->f.getD d 0<=(c.length:Z):=λe=>by
  have:=h.last
  induction e with
  |zero=>grind
  |succ e j=>intro d i;have:=j (d+1) aa;have:=h.mono d aa;omega
 exactλd i=>k (a-d) d aa
theorem zX (e:gq b a c f g):∀d,d<=a->(c6 c f g d).length=(c.getD d 0).toNat:=λd=>by
 induction d with
 |zero=>intro _;have:=e.first;show 0=(c.getD 0 0).toNat;omega
 |succ d h=>
  intro k;have i:=h aa;have j:=e.mono d aa;grind [aiP,MD,c6]
theorem Hx (e:gq b a g c f) (p:a<=200) (r:c.length<=10000):wY (((b:Z),(a:Z),g,c,f,()),())=Y (c6 g c f a,()):=by
 unfold wY;refine bQ.1 ?_;dsimp only;refine bD (P:=λk=>k=(c6 g c f a,())) ?_ (by grind [bu]);refine bL a (λd l=>l=((d:Z),c6 g c f d,())) rfl ?_ ?_
 ·rintro d _ n rfl;have s:=e.len;obtain⟨i,o⟩:=cB (e.pos d aa);obtain⟨h,m⟩:=cB (e.pos (d+1) aa);have t:h<=c.length:=(by have:=e.p9 (d+1) aa;omega);have u:i<=h:=(by have:=e.mono d n;omega);have q:=zX e d aa;have w:=e.val;dsimp only;rw[aY (aL (aa:(d:Z)<(a:Z))),bi aa];refine bz (y:=(i:Z)) (by rw[gY aa,o]) ?_;refine bD (P:=λk=>k=(c6 g c f (d+1),())) ?_ (by grind [bu]);refine bL (h-i) (λj l=>l=(((i+j:X):Z),c6 g c f d++iP c f (d:Z) i j,())) (by simp[iP]) ?_ ?_
  ·rintro j _ v rfl;dsimp only;refine bz (y:=(h:Z)) (by rw[gY aa,m]) ?_;rw[aY (aL (aa:((i+j:X):Z)<(h:Z)))];refine bz (gY aa) (bz (gY aa) ?_);rw[dc (by grind [MD])];refine bu.2 ?_;rw[bi aa,aiQ];rfl
  rintro _ rfl;dsimp only;refine bz (y:=(h:Z)) (by rw[gY aa,m]) ?_;simp_all [bu,a1,aI,c6,iP]
 rintro _ rfl;dsimp only;rw[a1 (aI (aa:¬((a:Z)<(a:Z))))];grind [bu]
structure hJ (rows c0:X) (st mU qr:aif):Prop where
 hr:rows<=200
 hc:c0<=200
 hi:mU.length<=10000
 hs:st.length<=1000000
 hv:qr.length<=1000000
 hw:∀v∈qr,eP v
def hJ.check (d:hJ b a f c g):sx (((b:Z),(a:Z),f,c,g,()),())=Y (gz b a f c g,()):=Xn d.hr d.hc d.hi d.hs d.hv d.hw
def hJ.vu (d:hJ b a f c g):q5 (((b:Z),(a:Z),f,c,g,()),())=Y (gz b a f c g,()):=ab4 d.hr d.hc d.hi d.hs d.hv d.hw
theorem jE:gz b a g f c=0↔gq b a g f c/\nW c:=by unfold gz;grind
def RX (d:hJ b a f c g) (e:gz b a f c g=0):CM (((b:Z),(a:Z),f,c,g,()),())=Y (c6 f c g a,()):=by unfold CM;refine ai d.check ?_;dsimp only;rw[e,fO,aL bn];exact ai (Hx (jE.1 e).1 d.hc d.hi) rfl
theorem P2 (d:hJ b a f c g) (i:gz b a f c g=0):zG (((b:Z),(a:Z),f,c,g,()),())=Y (c6 f c g a,()):=by have e:=(jE.1 i).1;have h:=Hx e d.hc d.hi;unfold wY at h;unfold zG;refine ai d.vu ?_;grind
def hh (a b:cU):Prop:=a.2.1<b.2.1\/(a.2.1=b.2.1/\a.1<b.1)
def ve:u∈iP c f d b a↔∃e,e<a/\u=(c.getD (b+e) 0,d,f.getD (b+e) 0,()):=by
 induction a with
 |zero=>simp[iP]
 |succ a k=>
  simp only[iP,h9,k,gp];constructor
  ·rintro(⟨e,j,g⟩|i)
   ·exact⟨e,aa,g⟩
   exact⟨a,aa,i⟩
  rintro⟨e,j,g⟩;rcases cQ e a with h|h
  ·exact .inl ⟨e,h,g⟩
  obtain rfl:e=a:=aa;exact .inr g
def UM (h:∀g e,g<e->e<a->c.getD (b+g) 0<c.getD (b+e) 0):(iP c f d b a).Pairwise hh:=by
 induction a with
 |zero=>exact akH
 |succ a m=>
  refine ang.2 ⟨m λg e i p=>h g e i aa,List.pairwise_singleton _ _,?_⟩;intro n j o k;obtain⟨e,l,rfl⟩:=ve.1 j;rw[gp.1 k];exact .inr ⟨bn,h e a l aa⟩
def Aq:u∈c6 c f g a↔∃b,b<a/\u∈iP f g (b:Z) (c.getD b 0).toNat ((c.getD (b+1) 0).toNat-(c.getD b 0).toNat):=by
 induction a with
 |zero=>simp[c6]
 |succ a j=>
  simp only[c6,h9,j];constructor
  ·rintro(⟨b,i,d⟩|h)
   ·exact⟨b,aa,d⟩
   exact⟨a,aa,h⟩
  rintro⟨b,i,d⟩;rcases cQ b a with e|e
  ·exact .inl ⟨b,e,d⟩
  obtain rfl:b=a:=aa;exact .inr d
def rf (k:gq b a c f g):∀d,d<=a->(c6 c f g d).Pairwise hh:=by
 intro d
 induction d with
 |zero=>intro _;exact akH
 |succ d q=>
  intro p;have C:=k.pos d aa;have D:=k.pos (d+1) p;refine ang.2 ⟨q aa,UM ?_,?_⟩
  ·intro h i v w;have s:∀e,h+e<(c.getD (d+1) 0).toNat-(c.getD d 0).toNat->0<e->f.getD ((c.getD d 0).toNat+h) 0<f.getD ((c.getD d 0).toNat+(h+e)) 0:=by
    intro e
    induction e with
    |zero=>intro _ y;omega
    |succ e r=>
     intro x _;have m:=k.asc d ((c.getD d 0).toNat+(h+(e+1))) aa aa aa;rw[(aa:(c.getD d 0).toNat+(h+(e+1))-1=(c.getD d 0).toNat+(h+e))] at m;rcases pB e with j|j
     ·subst j;exact m
     have:=r aa j;omega
   have:=s (i-h) aa aa;rwa[(aa:h+(i-h)=i)] at this
  intro t l u o;obtain⟨n,z,l⟩:=Aq.1 l;obtain⟨i,A,rfl⟩:=ve.1 l;obtain⟨E,B,rfl⟩:=ve.1 o;exact .inl (by show(n:Z)<(d:Z);omega)
def aa4 (a b:Z):B3 ([a,b],())=Y (if a≠0 then a else b,()):=by
 unfold B3;refine bQ.1 ?_;dsimp only;refine bD (P:=λf=>match f with|.inl _=>a=0/\b=0|.inr k=>k=(if a≠0 then a else b,())) ?_ ?_
 ·refine bL 2 (λd l=>l=((d:Z),())/\(1<=d->a=0)/\(2<=d->b=0)) ⟨bn,λh=>by omega,λh=>by omega⟩ ?_ ?_
  ·rintro d _ m ⟨rfl,g,i⟩;rcases(aa:d=0\/d=1) with rfl|rfl
   ·show ae (bif a !=0 then _ else _) _;rw[fO];by_cases c:a=0
    ·rw[aL c];exact bu.2 ⟨bn,λ_=>c,λh=>by omega⟩
    rw[aI c];refine bu.2 ?_;rw[au c]
   show ae (bif b !=0 then _ else _) _;have j:=g ab;rw[fO];by_cases c:b=0
   ·rw[aL c];exact bu.2 ⟨bn,λ_=>j,λ_=>c⟩
   rw[aI c];refine bu.2 ?_;rw[az (by simpa using j)]
  rintro _ ⟨rfl,g,i⟩;exact bu.2 ⟨g ab,i ab⟩
 rintro(f|f) e
 ·obtain⟨rfl,rfl⟩:a=0/\b=0:=e;exact bu.2 bn
 have e:f=_:=e;rw[e];exact bu.2 bn
def Mw {a:cU} (b:hh u a):wZ (a,u,())=Y (1,()):=by
 unfold wZ;refine ai (B0 _ _) (ai (B0 _ _) (ai (aa4 _ _) ?_));dsimp only;congr 2;unfold fE;rcases b with b|⟨d,c⟩
 ·rw[az (aa:¬a.2.1<u.2.1),au b];rfl
 rw[az (aa:¬a.2.1<u.2.1),az (aa:¬u.2.1<a.2.1),az ac,az (aa:¬a.1<u.1),au c]
def H8 (i:t.length<=1000) (e:t.Pairwise hh) {lo hi:X} (f:lo<=hi) (g:hi<=t.length):zr (t,(lo:Z),(hi:Z),(),())=Y (t,()):=by
 unfold zr;refine bQ.1 ?_;dsimp only;refine bD (P:=λc=>c=(t,())) ?_ (by rintro _ rfl;exact bu.2 bn);refine bL (hi-lo-1) (λa b=>b=(((lo+1+a:X):Z),t,())) (by rw[bi aa]) ?_ ?_
 ·rintro a _ h rfl;dsimp only;rw[aY (aL (aa:((lo+1+a:X):Z)<(hi:Z)))];refine bD (P:=λc=>c=(t,())) ?_ (by rintro _ rfl;refine bu.2 ?_;dsimp only;rw[bi aa];rfl);refine bL 0 (λ_ b=>b=(((lo+1+a:X):Z),t,())) rfl (λa b hi=>by omega) ?_;rintro _ rfl;dsimp only;refine bz (y:=.inr (.inr (t,()))) ?_ (bu.2 bn);rw[aL (aa:((lo+1+a:X):Z)>(lo:Z))];have aq:ax (((lo+1+a:X):Z)-1)=((lo+a:X):Z):=(by rw[cL aa aa];omega);rw[aiN,bG,lF aa,aq,lF aa];have d:hh t[lo+a] t[lo+1+a]:=aih.1 e _ _ aa aa aa;exact ai (Mw d) rfl
 rintro _ rfl;dsimp only;rw[a1 (aI (aa:¬((lo+1+(hi-lo-1):X):Z)<(hi:Z)))];exact bu.2 bn
def adI (u:t.length=21) (m:t.Pairwise hh):C5 (t,0,20,21,(),())=Y (t,()):=by
 unfold C5;refine bQ.1 ?_;dsimp only;rw[a1 ab,aY ab];refine bD (P:=λh=>h=(20,t,())) ?_ ?_
 ·refine bL 4 (λd g=>g=((([0,11,16,19,20]:aie).getD d 0:Z),20,t,())) rfl ?_ ?_
  ·rintro d _ v rfl;have f:∀c a:X,c<20->a<20->eJ bE (aM (ax ((c:Z)+20))) 1=Y (a:Z)->ax (a:Z)=(a:Z)->aP (a:Z)=((a+1:X):Z)->
    ae (
     bif br ((c:Z)<20) then(eJ bE (aM (ax ((c:Z)+20))) 1).bind λi=>
     rd t 20 λo=>rd t (ax i) λp=>(wZ (o,p,())).bind λ(n,_)=>
      (bif !(br (n<0)) then Y (.inl (aP (ax i),20,t,())) else bo) else Y (.inr ((c:Z),t,())))
     (λe=>e=Sum.inl (((a+1:X):Z),(20:Z),t,())):=by
    intro c a q r j k l;rw[aY (aL aa),j,bM,k,show(20:Z)=((20:X):Z) from rfl,lF aa,lF aa];refine bz (Mw (aih.1 m _ _ aa aa aa)) ?_;dsimp only;rw[aY ab,l];exact bu.2 bn
   rcases(by omega:d=0\/d=1\/d=2\/d=3) with rfl|rfl|rfl|rfl
   ·exact(f 0 10 ab ab ab ab ab).mono λe b=>by rw[b];rfl
   ·exact(f 11 15 ab ab ab ab ab).mono λe b=>by rw[b];rfl
   ·exact(f 16 18 ab ab ab ab ab).mono λe b=>by rw[b];rfl
   exact(f 19 19 ab ab ab ab ab).mono λe b=>by rw[b];rfl
  rintro _ rfl;exact bu.2 bn
 rintro _ rfl;dsimp only;refine bD (P:=λh=>h=(t,())) ?_ (by rintro _ rfl;exact bu.2 bn);refine bL 0 (λ_ g=>g=(20,t,())) rfl (λw g s=>by omega) ?_;rintro _ rfl;exact bu.2 bn
def adf (l:t.length<=21) (d:t.Pairwise hh):CQ (t,())=Y (t,()):=by
 unfold CQ;refine ai (y:=(t,())) ?_ ?_
 ·unfold GZ;have f:((cC (([]:bm cU).length+t.length)).bind λ_=>Y (([]++t:bm cU),()))=Y (t,()):=by
   rw[dc (by simp;omega)];rfl
  show rB t.length (Y ([],())) ((cC (([]:bm cU).length+t.length)).bind λ_=>Y (([]++t:bm cU),()))=_;unfold rB;rw[f];split
  ·rename_i h;obtain rfl:=qA h;rw[au bn]
  rfl
 refine ai (y:=(t,())) ?_ bn;unfold G5;refine ai (y:=(t,())) ?_ bn;unfold G7;refine bQ.1 ?_;dsimp only;by_cases j:t.length<20
 ·refine bD (P:=λb=>b=(0,t,())) ?_ ?_
  ·refine bL 0 (λ_ a=>a=(0,20,t,())) rfl (λg a e=>by omega) ?_;rintro _ rfl;dsimp only;rw[a1 (aI (show¬((20:Z)<=al t) by simp only[bf];omega))];exact bu.2 bn
  rintro _ rfl;refine bz (H8 (lo:=0) aa d (al8 _) (cd _)) ?_;refine bD (P:=λb=>b=(t,())) ?_ (by rintro _ rfl;exact bu.2 bn);refine bL 0 (λ_ a=>a=(20,t,())) rfl (λg a e=>by omega) ?_;rintro _ rfl;dsimp only;rw[a1 (aI (show¬((20:Z)<al t) by simp only[bf];omega))];exact bu.2 bn
 refine bD (P:=λb=>b=(20,t,())) ?_ ?_
 ·refine bL 1 (λc a=>a=((20*(c:Z)),20+20*(c:Z),t,())) rfl ?_ ?_
  ·rintro c _ i rfl;obtain rfl:c=0:=aa;dsimp only;rw[aY (aL (show(20:Z)+20*((0:X):Z)<=al t by simp only[bf];omega))];refine bz (H8 (lo:=0) (hi:=20) aa d (al8 _) aa) ?_;exact bu.2 bn
  rintro _ rfl;dsimp only;rw[a1 (aI (show¬((20:Z)+20*((1:X):Z)<=al t) by simp only[bf];omega))];exact bu.2 bn
 rintro _ rfl;refine bz (H8 (lo:=20) aa d aa (bc _)) ?_;refine bD (P:=λb=>b=(t,())) ?_ (by rintro _ rfl;exact bu.2 bn);by_cases k:t.length=20
 ·refine bL 0 (λ_ a=>a=(20,t,())) rfl (λg a e=>by omega) ?_;rintro _ rfl;dsimp only;rw[a1 (aI (show¬((20:Z)<al t) by simp only[bf];omega))];exact bu.2 bn
 refine bL 1 (λc a=>a=(20+20*(c:Z),t,())) rfl ?_ ?_
 ·rintro c _ i rfl;obtain rfl:c=0:=aa;dsimp only;rw[aY (aL (show(20:Z)+20*((0:X):Z)<al t by simp only[bf];omega))];refine bD (P:=λb=>b=(0,t,())) ?_ ?_
  ·refine bL 0 (λ_ a=>a=(0,40,t,())) rfl (λg a e=>by omega) ?_;rintro _ rfl;dsimp only;rw[a1 (aI (show¬((40:Z)<=al t) by simp only[bf];omega))];exact bu.2 bn
  rintro _ rfl;refine bz (y:=(t,())) ?_ (bu.2 bn);dsimp only;have f:al t=21:=(by rw[bf];omega);rw[f,aY (aL (ab:ax (0+(20+20*((0:X):Z)))<21))];exact ai (adI aa d) rfl
 rintro _ rfl;dsimp only;rw[a1 (aI (show¬((20:Z)+20*((1:X):Z)<al t) by simp only[bf];omega))];exact bu.2 bn
def jl (E:bm cU) (a:Z):X:=(E.filter λb=>br (b.2.1=a)).length
def g1 (E:bm cU) (a:Z):X:=(E.filter λb=>br (b.2.1<a)).length
def rx (d b:X) (E:bm cU):c5:=((d:Z),(b:Z),aB (b+1) (λc=>(g1 E (c:Z):Z)),E.map (λa=>a.1),E.map (λa=>a.2.2.1),())
theorem GJ (E:bm cU) (a:Z):g1 E (a+1)=g1 E a+jl E a:=by
 unfold g1 jl
 induction E with
 |nil=>rfl
 |cons b E d=>
  simp only[n0];rcases Int.lt_trichotomy b.2.1 a with c|c|c
  ·rw[au (by simpa using(by omega:b.2.1<a+1)),au (by simpa using c),az (by simpa using(by omega:¬b.2.1=a))];simp only[i5];omega
  ·rw[au (by simpa using(by omega:b.2.1<a+1)),az (by simpa using(by omega:¬b.2.1<a)),au (by simpa using c)];simp only[i5];omega
  rw[az (by simpa using(by omega:¬b.2.1<a+1)),az (by simpa using(by omega:¬b.2.1<a)),az (by simpa using(by omega:¬b.2.1=a))];omega
def lh (c b:X) (E:bm cU):Prop:=∀a∈E,0<=a.1/\a.1<(c:Z)/\0<=a.2.1/\a.2.1<(b:Z)
def L6 (E:bm cU) (c:cU) (a:Z):jl (E++[c]) a=jl E a+if c.2.1=a then 1 else 0:=by
 unfold jl;rw[pq,jN];congr 1;by_cases b:c.2.1=a
 ·rw[au b,FV (by simpa using b)];rfl
 rw[az b,FU (by simpa using b)];rfl
def TH {E:bm cU} (C:b<=200) (B:a<=200) (n:E.length<=21) (y:E.Pairwise hh) (t:lh b a E):CO ((b:Z),(a:Z),E,())=Y (rx b a E,()):=by
 unfold CO;refine bQ.1 ?_;dsimp only;rw[bi aa];refine bz (h6 aa) (bz (adf n y) ?_);dsimp only;refine bD (P:=λr=>r=(((0:Z),((0:Z),([],([],([],()))))),((b:Z),(a:Z),aB (a+1) (λc=>if c=0 then(0:Z) else(jl E ((c:Z)-1):Z)),E.map (λe=>e.1),E.map (λe=>e.2.2.1),()),())) ?_ ?_
 ·refine bL E.length (λd s=>s=((d:Z),((0:Z),((0:Z),([],([],([],()))))),((b:Z),(a:Z),aB (a+1) (λc=>if c=0 then(0:Z) else(jl (E.take d) ((c:Z)-1):Z)),(E.take d).map (λe=>e.1),(E.take d).map (λe=>e.2.2.1),()),E,())) ?_ ?_ ?_
  ·have j:(aB (a+1) λ_=>(0:Z))=aB (a+1) λc=>if c=0 then(0:Z) else(jl (E.take 0) ((c:Z)-1):Z):=db λc l=>by split<;>rfl
   rw[jc,j];rfl
  ·rintro d _ k rfl;have q:=t E[d] (b7 k);obtain⟨i,w⟩:=cB q.2.2.1;dsimp only;rw[aY (aL (show(d:Z)<al E by simp only[bf];omega)),lF k];have aq:aP E[d].2.1=((i+1:X):Z):=(by rw[w,bi aa]);have p:E.take (d+1)=E.take d++[E[d]]:=(by rw[cr,bS k];rfl);rw[dc (by simp;omega),bM,dc (by simp;omega),bM,aq];refine bz (eU (by rw[cX];omega)) (bz (gW aa) (bz (eU (by rw[cX];omega)) ?_));rw[gW aa];refine bu.2 ?_;have o:(aB (a+1) (λc=>if c=0 then(0:Z) else(jl (E.take d) ((c:Z)-1):Z))).set (i+1) (aP (if i+1=0 then(0:Z) else(jl (E.take d) (((i+1:X):Z)-1):Z)))=aB (a+1) (λc=>if c=0 then(0:Z) else(jl (E.take (d+1)) ((c:Z)-1):Z)):=by
    rw[hB];refine db λc l=>?_;have m:∀g,jl (E.take d) g<=21:=λg=>ez (kO _ _) (by rw[fQ];omega);by_cases f:c=i+1
    ·subst f;rw[gH,az aa,az aa,bi (by have:=m (((i+1:X):Z)-1);omega),p,L6,au aa]
    rw[hb _ _ f];by_cases h:c=0
    ·rw[au h,au h]
    rw[az h,az h,p,L6,az aa,nf]
   dsimp only[ajZ];rw[bi aa,o,p,ak9,ak9];rfl
  rintro _ rfl;dsimp only;rw[a1 (aI (show¬((E.length:Z)<al E) by simp only[bf];omega)),ch (cd _)];exact bu.2 bn
 rintro _ rfl;dsimp only;refine bD (P:=λr=>r=(((0:Z),((0:Z),([],([],([],()))))),rx b a E,())) ?_ (by rintro _ rfl;exact bu.2 bn);have x:∀g,g1 E g<=21:=λg=>cu (aiH _ _) n;have m:∀g,jl E g<=21:=λg=>cu (aiH _ _) n;have v:g1 E 0=0:=by
  unfold g1;rw[ala.2]
  ·rfl
  intro e q;have:=t e q;simpa using this.2.2.1
 refine bL a (λd s=>s=((d:Z),((0:Z),((0:Z),([],([],([],()))))),((b:Z),(a:Z),aB (a+1) (λc=>if c<=d then(g1 E (c:Z):Z) else(jl E ((c:Z)-1):Z)),E.map (λe=>e.1),E.map (λe=>e.2.2.1),()),())) ?_ ?_ ?_
 ·have j:(aB (a+1) λc=>if c=0 then(0:Z) else(jl E ((c:Z)-1):Z))=aB (a+1) (λc=>if c<=0 then(g1 E (c:Z):Z) else(jl E ((c:Z)-1):Z)):=db λc l=>by
   by_cases f:c=0
   ·subst f;rw[au bn,au (bc _)];show(0:Z)=((g1 E 0:X):Z);rw[v];rfl
   rw[az f,az aa]
  rw[j];rfl
 ·rintro d _ k rfl;dsimp only;rw[aY (aL (aa:(d:Z)<(a:Z))),bi aa,lF (by rw[cX];omega),lF (by rw[cX];omega),lz,lz];refine bz (eU (by rw[cX];omega)) ?_;rw[gW aa];refine bu.2 ?_;have o:(aB (a+1) (λc=>if c<=d then(g1 E (c:Z):Z) else(jl E ((c:Z)-1):Z))).set (d+1) (ax ((if d+1<=d then(g1 E ((d+1:X):Z):Z) else(jl E (((d+1:X):Z)-1):Z))+(if d<=d then(g1 E (d:Z):Z) else(jl E ((d:Z)-1):Z))))=aB (a+1) (λc=>if c<=d+1 then(g1 E (c:Z):Z) else(jl E ((c:Z)-1):Z)):=by
   rw[hB];refine db λc l=>?_;by_cases f:c=d+1
   ·subst f;have u:=GJ E (d:Z);have z:=m (d:Z);have A:=x (d:Z);rw[gH,az aa,au (bc _),au (bc _),(aa:(((d+1:X):Z)-1)=(d:Z)),cL aa aa,(aa:((d+1:X):Z)=(d:Z)+1),u];omega
   rw[hb _ _ f];by_cases h:c<=d
   ·rw[au h,au aa]
   rw[az h,az aa]
  dsimp only[ajZ];rw[o]
 rintro _ rfl;dsimp only;rw[a1 (aI (aa:¬((a:Z)<(a:Z))))];have j:aB (a+1) (λc=>if c<=a then(g1 E (c:Z):Z) else(jl E ((c:Z)-1):Z))=aB (a+1) (λc=>(g1 E (c:Z):Z)):=db λc l=>(by rw[cb aa]);rw[j];exact bu.2 bn
def g7 (b c:Z) (a:cU):bA:=br (a.2.1<b)||(br (a.2.1=b)&&br (a.1<c))
theorem Lv {a:cU} (b:hh u a) (f:g7 k d a=bp):g7 k d u=bp:=by
 unfold g7 at*;simp only[je,bk,aiF] at*;rcases b with b|⟨c,e⟩
 ·omega
 omega
theorem MN {j i:Z}:∀{E:bm cU},E.Pairwise hh->E.filter (g7 j i)=E.take (E.filter (g7 j i)).length
 |[],_=>rfl
 |x::E,b=>by
  obtain⟨d,c⟩:=mM.1 b;by_cases a:g7 j i x=bp
  ·rw[FV a,i5,List.take_succ_cons];exact b4 _ (MN c)
  grind [ala,Lv,List.filter_cons_of_neg]
theorem Gs {E:bm cU} (d:lh b a E):E.filter (g7 0 0)=[]:=by refine ala.2 λf e c=>?_;have:=d f e;unfold g7 at c;grind
theorem Tq {E:bm cU} (d:lh a b E) (c:Z):E.filter (g7 c (a:Z))=E.filter (g7 (c+1) 0):=by refine pt λf e=>?_;have:=d f e;unfold g7;grind
theorem BR {E:bm cU} (d:lh b a E) (c:Z):(E.filter (g7 c 0)).length=g1 E c:=by unfold g1;congr 1;refine pt λf e=>?_;have:=d f e;unfold g7;grind
theorem Gt {j i:Z} {E:bm cU} (c:E.Pairwise hh) (h:a<E.length):g7 j i E[a]=bp↔a<(E.filter (g7 j i)).length:=by
 constructor
 ·intro b;have g:∀d∈E.take (a+1),g7 j i d=bp:=by
   grind [Lv,aih,cl,aj0]
  grind [air,anI,alb,ajH]
 intro b;have e:=MN (j:=j) (i:=i) c;have f:E[a]∈E.filter (g7 j i):=(by grind [aj0]);grind
theorem Tr {j i:Z} {E:bm cU} (o:E.Pairwise hh):(∃d:(E.filter (g7 j i)).length<E.length,E[(E.filter (g7 j i)).length].1=i/\E[(E.filter (g7 j i)).length].2.1=j/\(E.filter (g7 j (i+1))).length=(E.filter (g7 j i)).length+1)\/((∀b,(d:b<E.length)->¬(E[b].1=i/\E[b].2.1=j))/\(E.filter (g7 j (i+1))).length=(E.filter (g7 j i)).length):=by
 have p:∀e:cU,g7 j (i+1) e=bp↔g7 j i e=bp\/(e.1=i/\e.2.1=j):=λe=>(by unfold g7;grind);have w:∀e:cU,e.1=i/\e.2.1=j->¬g7 j i e=bp:=λe k d=>(by simp_all [je,bk,aiF,g7]);generalize C:(E.filter (g7 j i)).length=g;generalize D:(E.filter (g7 j (i+1))).length=l;have q:∀a,(f:a<E.length)->(g7 j i E[a]=bp↔a<g):=λa f=>(by grind [Gt]);have m:∀a,(f:a<E.length)->(g7 j (i+1) E[a]=bp↔a<l):=λa f=>(by grind [Gt]);have F:g<=E.length:=(by grind);have G:l<=E.length:=(by grind);by_cases n:∃b,∃d:b<E.length,E[b].1=i/\E[b].2.1=j
 ·obtain⟨b,h,k⟩:=n;have x:¬b<g:=λd=>w _ k ((q b h).2 d);have y:b<l:=(m b h).1 ((p _).2 (.inr k));have r:∀a,(f:a<E.length)->g<=a->a<l->a=b:=λa f A t=>by
   have u:=(p _).1 ((m a f).2 t);have B:E[a].1=i/\E[a].2.1=j:=u.resolve_left λd=>(by grind);rcases r6 a b with c|c|c
   ·have:=h2.1 o a b f h c;rcases this with d|⟨d,s⟩<;>omega
   ·exact c
   have:=h2.1 o b a h f c;rcases this with d|⟨d,s⟩<;>omega
  have v:g=b:=r g aa (bc _) aa;subst v;refine .inl ⟨h,k.1,k.2,?_⟩;rcases cQ (g+1) l with c|c
  ·grind
  omega
 refine .inr ⟨λb h k=>n ⟨b,h,k⟩,?_⟩;have z:∀a,a<E.length->(a<l↔a<g):=λa f=>(by grind);rcases r6 l g with c|c|c
 ·grind
 ·exact c
 grind
def ou (b:X) (a:cU):X:=a.2.1.toNat*b+a.1.toNat
theorem abz {E:bm cU} (c:lh a b E) (d:u∈E):ou a u<a*b:=by have e:=c u d;unfold ou;have f:(u.2.1.toNat+1)*a<=b*a:=jj _ aa;grind
theorem aby {rows:X} {a b:Z×Z} (f:0<=a.1/\a.1<(rows:Z)/\0<=a.2) (g:0<=b.1/\b.1<(rows:Z)/\0<=b.2) (c:a.2.toNat*rows+a.1.toNat=b.2.toNat*rows+b.1.toNat):a.1=b.1/\a.2=b.2:=by have d:(a.2.toNat*rows+a.1.toNat)/rows=a.2.toNat:=(by rw[r7,anh aa,al6 aa,nf]);have e:(b.2.toNat*rows+b.1.toNat)/rows=b.2.toNat:=(by rw[r7,anh aa,al6 aa,nf]);grind
def n9 (b:X) (E:bm cU):X->X->Z
 |0,_=>0
 |i+1,a=>if a=ou b (E.getD i (0,0,0,())) then((i+1:X):Z) else n9 b E i a
theorem LP (c:X) (E:bm cU) (b:X):∀i,(n9 c E i b=0/\∀a,a<i->ou c (E.getD a (0,0,0,()))≠b)\/∃a,a<i/\ou c (E.getD a (0,0,0,()))=b/\n9 c E i b=((a+1:X):Z)
 |0=>.inl ⟨bn,λa e=>absurd e aa⟩
 |i+1=>by
  unfold n9;by_cases d:b=ou c (E.getD i (0,0,0,()))
  ·grind
  rw[az d];rcases LP c E b i with⟨f,g⟩|⟨a,f,g,h⟩
  ·grind
  grind
theorem TS (b:X) (E:bm cU) (a:X):eC (n9 b E a) (ou b (E.getD a (0,0,0,()))) ((a+1:X):Z)=n9 b E (a+1):=by grind [n9,eC]
theorem PT (e:b<=200) (d:a<=200) (g:h<=200):ax (ax ((a:Z)*(b:Z))+(h:Z))=((a*b+h:X):Z):=by have f:a*b<=200*200:=mO d e;have c:(a:Z)*(b:Z)=((a*b:X):Z):=aa;rw[c,Bj aa,<-Int.natCast_add,Bj aa]
theorem HW {E:bm cU} (b:a<E.length):E.getD a (0,0,0,())=E[a]:=by grind
def jJ (E:bm cU) (b a:Z):X:=(E.filter (g7 b a)).length
def PQ (E:bm cU) (b a:Z):jJ E b a<=E.length:=kO _ _
def o9 (e d:X) (E:bm cU) (a:X) (c:X):c5:=((e:Z),(d:Z),aB (a+1) (λa=>(g1 E (a:Z):Z)),(E.take c).map (λb=>b.1),(E.take c).map (λb=>b.2.2.1),())
theorem abe {E:bm cU} (x:h<=200) (D:r<=200) (T:E.length<=10000) (J:E.Pairwise hh) (g:lh h r E):Dr ((h:Z),(r:Z),E,())=Y (rx h r E,()):=by
 unfold Dr;refine bQ.1 ?_;dsimp only;have am:h*r<=200*200:=alc x D;have A:ax ((h:Z)*(r:Z))=((h*r:X):Z):=(by rw[<-Int.natCast_mul,Bj aa]);rw[A];refine bz (h6 aa) ?_;have O:g1 E 0=0:=(by rw[<-BR g,Gs g];rfl);refine bD (P:=λl=>l=(((0:Z),((0:Z),([],([],([],()))))),o9 h r E 0 0,aB (h*r) (n9 h E E.length),())) ?_ ?_
 ·refine bL E.length (λd m=>m=((d:Z),((0:Z),((0:Z),([],([],([],()))))),o9 h r E 0 0,aB (h*r) (n9 h E d),())) ?_ ?_ ?_
  ·have:o9 h r E 0 0=((h:Z),((r:Z),([0],(([]:be),(([]:be),()))))):=by
    grind [z1,Vi,g1,o9]
   rw[jc,this];rfl
  ·rintro d _ k rfl;have f:=g E[d] (b7 k);obtain⟨M,R⟩:=cB f.1;obtain⟨N,S⟩:=cB f.2.2.1;dsimp only;rw[aY (aL (show(d:Z)<al E by grind))];refine bz (e1 k) (bz (e1 k) ?_);have I:ax (ax (E[d].2.1*(h:Z))+E[d].1)=((ou h E[d]:X):Z):=by
    grind [PT,aiT,ou]
   have V:=abz g (cR k);grind [bu,lJ,cX,hB,bi,HW,TS]
  rintro _ rfl;dsimp only;rw[a1 (aI (show¬((E.length:Z)<al E) by grind))];grind [bu]
 rintro _ rfl;dsimp only;refine bD (P:=λl=>l=(((0:Z),((0:Z),([],([],([],()))))),rx h r E,())) ?_ (by grind [bu]);refine bL r (λc m=>m=((c:Z),((0:Z),((0:Z),([],([],([],()))))),o9 h r E c (jJ E (c:Z) 0),aB (h*r) (n9 h E E.length),())) ?_ ?_ ?_
 ·have:jJ E ((0:X):Z) 0=0:=by
   unfold jJ;grind [Gs]
  grind
 ·rintro c _ F rfl;dsimp only;rw[aY (aL (aa:(c:Z)<(r:Z)))];refine bD (P:=λl=>l=(((0:Z),((0:Z),([],([],([],()))))),o9 h r E c (jJ E (c:Z) (h:Z)),aB (h*r) (n9 h E E.length),())) ?_ ?_
  ·refine bL h (λd m=>m=((d:Z),((0:Z),((0:Z),([],([],([],()))))),o9 h r E c (jJ E (c:Z) (d:Z)),aB (h*r) (n9 h E E.length),())) rfl ?_ ?_
   ·rintro d _ k rfl;dsimp only;rw[aY (aL (aa:(d:Z)<(h:Z))),PT x aa aa];have I:c*h+d<h*r:=by
     have o:(c+1)*h<=r*h:=jj _ F;grind
    rw[lF (by grind [cX]),lz];have w:=PQ E (c:Z) (d:Z);have p:=Tr (j:=(c:Z)) (i:=(d:Z)) J;change(∃n:jJ E (c:Z) (d:Z)<E.length,E[jJ E (c:Z) (d:Z)].1=(d:Z)/\E[jJ E (c:Z) (d:Z)].2.1=(c:Z)/\jJ E (c:Z) ((d:Z)+1)=jJ E (c:Z) (d:Z)+1)\/((∀u,(n:u<E.length)->¬(E[u].1=(d:Z)/\E[u].2.1=(c:Z)))/\jJ E (c:Z) ((d:Z)+1)=jJ E (c:Z) (d:Z)) at p;rw[show(d:Z)+1=((d+1:X):Z) from by omega] at p;generalize jJ E (c:Z) (d:Z)=z at*;rw[bi aa];have G:∀e,(n:e<E.length)->ou h E[e]=c*h+d->E[e].1=(d:Z)/\E[e].2.1=(c:Z):=(by intro e n ad;have f:=g E[e] (cR n);exact aby (rows:=h) (a:=(E[e].1,E[e].2.1)) (b:=((d:Z),(c:Z))) ⟨f.1,f.2.1,f.2.2.1⟩ ⟨aa,aa,aa⟩ (by grind [ou]));rcases LP h E (c*h+d) E.length with⟨L,av⟩|⟨e,t,y,K⟩
    ·rw[L];rcases p with⟨o,s,B,C⟩|⟨o,s⟩
     ·grind [aiT,HW,ou,absurd]
     rw[a1 (aI aa)];grind [bu,bz]
    rw[K];rw[HW t] at y;obtain⟨aw,ap⟩:=G e t y;rcases p with⟨o,s,B,C⟩|⟨o,s⟩
    ·have H:e=z:=by
      rcases r6 e z with q|q|q
      ·grind [aih,hh]
      ·exact q
      grind [aih,hh]
     subst H;rw[aY (aL aa),(aa:((e+1:X):Z)-1=(e:Z)),Bj aa];unfold o9;dsimp only;rw[dc (by grind),bM];have an:E.take (e+1)=E.take e++[E[e]]:=(by simp_all);rw[e1 t,bM,dc (by grind),bM,bM];grind [bu]
    grind
   rintro _ rfl;dsimp only;rw[a1 (aI (aa:¬((h:Z)<(h:Z))))];grind [bu]
  rintro _ rfl;have w:=PQ E (c:Z) (h:Z);have aq:jJ E (c:Z) (h:Z)=jJ E ((c+1:X):Z) 0:=(by grind [Tq,jJ]);have Q:jJ E ((c+1:X):Z) 0=g1 E ((c+1:X):Z):=BR g _;rw[aq] at w|-;unfold o9;dsimp only;have U:al ((E.take (jJ E ((c+1:X):Z) 0)).map λv=>v.1)=(g1 E ((c+1:X):Z):Z):=(by grind);grind [bu,dc,cX,z1,bi]
 rintro _ rfl;dsimp only;rw[a1 (aI (aa:¬((r:Z)<(r:Z))))];have aq:jJ E (r:Z) 0=E.length:=(by unfold jJ;rw[ajH.2];intro v f;have:=g v f;simp_all [Bool.or_eq_true,Bool.and_eq_true,aiF,g7]);have:o9 h r E r (jJ E (r:Z) 0)=rx h r E:=(by simp_all [ch,cd,o9,rx]);grind [bu]
theorem wv {E:bm cU} (g:E.Pairwise hh) (e:lh h b E) (f:a<E.length) (c:Z):E[a].2.1<c↔a<g1 E c:=by have d:=Gt (j:=c) (i:=0) g f;rw[BR e] at d;rw[<-d];have:=e E[a] (cR f);unfold g7;grind
theorem L1 {E:bm cU} (c:lh b a E):g1 E 0=0:=by rw[<-BR c,Gs c];rfl
theorem L0 {E:bm cU} (c:lh b a E):g1 E (a:Z)=E.length:=by unfold g1;rw[mL.2];intro e d;have:=c e d;grind
theorem Vg {c:X->Z} (d:a<b):(aB b c).getD a 0=c a:=by grind [jn]
theorem D8 {E:bm cU} (c:a<E.length):(E.map λb=>b.1).getD a 0=E[a].1:=by grind
theorem VR {E:bm cU} (c:a<E.length):(E.map λb=>b.2.2.1).getD a 0=E[a].2.2.1:=by grind
def vF (a:X) (E:bm cU):aif:=aB (a+1) (λb=>(g1 E (b:Z):Z))
theorem vG {E:bm cU} (c:a<=b):(vF b E).getD a 0=(g1 E (a:Z):Z):=Vg aa
theorem GI (E:bm cU) (a:Z):g1 E a<=E.length:=kO _ _
theorem adu {E:bm cU} (i:E.Pairwise hh) (d:lh b a E):gq b a (vF a E) (E.map λj=>j.1) (E.map λj=>j.2.2.1) where
 len:=cX _ _
 first:=by rw[vG (da _)];grind [L1]
 mono:=λe k=>by grind [vG,GJ]
 last:=by rw[vG (bc _),L0 d,e9]
 val:=by simp
 rng:=λe f k g h=>by rw[vG aa] at g h;have c:f<E.length:=(by grind [GI]);rw[D8 c];have:=d E[f] (cR c);omega
 asc:=λe f k g h=>by rw[vG aa] at g h;have c:f<E.length:=(by grind [GI]);rw[D8 c,D8 aa];have l:=wv i d c (e:Z);have m:=wv i d c ((e+1:X):Z);have n:=wv i d (aa:f-1<E.length) (e:Z);grind [aih,wv,hh]
theorem JX {rows c0:X} {E:bm cU} (c:rows<=200) (b:c0<=200) (f:E.length<=10000) (e:∀a∈E,eP a.2.2.1):hJ rows c0 (vF c0 E) (E.map λa=>a.1) (E.map λa=>a.2.2.1) where
 hr:=c
 hc:=b
 hi:=by grind
 hs:=by grind [cX,vF]
 hv:=by grind
 hw:=λg d=>by grind
def Hv (c f:aif) (d:Z) (b a:X):iP c f d b a=aB a λe=>(c.getD (b+e) 0,d,f.getD (b+e) 0,()):=by
 induction a with
 |zero=>rfl
 |succ a g=>rw[iP,g,z1]
theorem UN {E:bm cU} (i:E.Pairwise hh) (h:lh b a E):∀c,c<=a->c6 (vF a E) (E.map λf=>f.1) (E.map λf=>f.2.2.1) c=E.take (g1 E (c:Z)):=by
 intro c
 induction c with
 |zero=>
  intro _;show[]=E.take (g1 E 0);grind [L1]
 |succ c q=>
  intro t;rw[c6,q aa,vG aa,vG aa,Hv,fJ,fJ];have n:g1 E ((c+1:X):Z)=g1 E (c:Z)+jl E (c:Z):=(by grind [GJ]);have o:=GI E ((c+1:X):Z);have j:∀d,(e:d<E.length)->g1 E (c:Z)<=d->d<g1 E ((c+1:X):Z)->E[d].2.1=(c:Z):=λd e l m=>(by have r:=wv i h e (c:Z);have s:=wv i h e ((c+1:X):Z);omega);rw[n] at j o|-;generalize g1 E (c:Z)=k at*;generalize jl E (c:Z)=g at*;rw[r5,List.take_add];congr 1;have p:((E.drop k).take g).length=g:=(by grind);refine yv (by rw[cX,p]) λu l m=>?_;grind [lz,D8,VR,cX]
def Hw {E:bm cU} (e:E.Pairwise hh) (d:lh b a E):c6 (vF a E) (E.map λc=>c.1) (E.map λc=>c.2.2.1) a=E:=by rw[UN e d a (bc _),L0 d,fB (bc _)]
theorem Vs {E:bm cU} (b:∀a∈E,cE a.2.2.1≠2047):nW (E.map λa=>a.2.2.1):=by intro d c;grind
def GH {E:bm cU} (f:E.Pairwise hh) (e:lh b a E) (d:∀c∈E,cE c.2.2.1≠2047):gz b a (vF a E) (E.map λc=>c.1) (E.map λc=>c.2.2.1)=0:=
 jE.2 ⟨adu f e,Vs d⟩
theorem re (e:gq b a c f g):lh b a (c6 c f g a):=by intro n h;obtain⟨d,i,h⟩:=Aq.1 h;obtain⟨j,k,rfl⟩:=ve.1 h;have l:=e.pos d aa;have m:=e.pos (d+1) aa;have:=e.rng d ((c.getD d 0).toNat+j) i aa aa;grind
theorem p1 (d:gq b a g f c) (l:∀j∈c,p j):∀i∈c6 g f c a,p i.2.2.1:=by intro i h;obtain⟨e,k,h⟩:=Aq.1 h;obtain⟨s,m,rfl⟩:=ve.1 h;have q:=d.pos e aa;have r:=d.pos (e+1) aa;have n:=d.p9 (e+1) aa;have o:=d.val;grind
theorem DW (b:nW c):∀a∈c,cE a≠2047:=by intro a e;obtain⟨f,d,rfl⟩:=hu.1 e;have:=b f d;grind
def s5 (a:cU):bA:=br (a.1>=a.2.1)
def gE (E:bm cU):bm cU:=E.filter s5
def xH {E:bm cU} (a:E.Pairwise hh):(gE E).Pairwise hh:=ani tN a
def xG {E:bm cU} (c:lh b a E):lh b a (gE E):=λe d=>c e (ht.1 d).1
def Xa {E:bm cU}:∀a∈gE E,a.2.1<=a.1:=λa b=>by have:=(ht.1 b).2;unfold s5 at this;simpa using this
def Rd {b:j->bA} {E:bm j} (d:a<E.length):(E.take (a+1)).filter b=(E.take a).filter b++(if b E[a]=bp then[E[a]] else[]):=by
 rw[hx,ba d,pq];congr 1;show[E[a]].filter b=_;by_cases c:b E[a]=bp
 ·rw[au c,FV c];rfl
 rw[az c,FU c];rfl
def IN:∀(a:aie) (b:X),a.Pairwise (· < ·)->(∀x∈a,x<b)->a.length<=b
 |[],_,_,_=>da _
 |x::a,b,i,d=>by
  obtain⟨c,j⟩:=mM.1 i;have p:=d x ac;have:=IN (a.map λf=>f-(x+1)) (b-(x+1)) (by
   rw[py];refine tK ?_ j;intro h m k o n;have:=c h k;omega) (by
   intro f l;obtain⟨g,e,rfl⟩:=eZ.1 l;have:=c g e;have:=d g (by simp[e]);omega)
  rw[e9] at this;rw[i5];omega
def IW (a:Z):Z:=if a=0 then 0 else if a=1 then 5 else if a=2 then 9 else if a=3 then 12 else if a=4 then 14 else 15
def Xc (s:a<=6) {E:bm cU} (o:E.Pairwise hh) (c:lh a a E) (d:∀b∈E,b.2.1<=b.1):E.length<=21:=by
 have m:=IN (E.map λb=>(IW b.2.1+b.1).toNat) 21 (by
  rw[py];refine tK ?_ o;intro e f g h n;have k:=c e g;have q:=c f h;have l:=d e g;have r:=d f h;unfold hh at n;unfold IW;split<;>split<;>(try split)<;>(try split)<;>(try split)<;>(try split)<;>(try split)<;>(try split)<;>(try split)<;>(try split)<;>omega) (by
  intro t p;obtain⟨j,i,rfl⟩:=eZ.1 p;have k:=c j i;have l:=d j i;unfold IW;split
  ·omega
  split
  ·omega
  split
  ·omega
  split
  ·omega
  split<;>omega)
 rwa[e9] at m
structure mI (n:X) (st mU qr:aif):Prop where
 xN:n<=7
 el:(gE (c6 st mU qr n)).length<=21
def mI.Yb (d:a<=6) (b:gz a a f c g=0):mI a f c g:=
 ⟨aa,ez (Xc d (xH (rf (jE.1 b).1 a (bc _))) (xG (re (jE.1 b).1)) Xa) ab⟩
def mI.OH (d:a<=5) (b:gz a a f c g=0):mI a f c g:=mI.Yb (ez d ab) b
def Sd (j:mI a f c g) (b:hJ a a f c g) (l:gz a a f c g=0):CN (((a:Z),(a:Z),f,c,g,()),())=Y (rx a a (gE (c6 f c g a)),0,()):=by
 have h:=(jE.1 l).1;have m:=rf h a (cd _);have n:=re h;have s:=j.el;have t:=j.xN;have r:(c6 f c g a).length<=10000:=(by rw[zX h a (cd _)];have:=h.p9 a (cd _);have:=b.hi;omega);unfold CN;refine ai b.check ?_;dsimp only;rw[l,fO,aL bn];refine ai (Hx h b.hc b.hi) ?_;dsimp only;generalize c6 f c g a=E at*;refine bQ.1 ?_;refine bD (P:=λo=>o=(((0:Z),((0:Z),([],([],([],()))))),gE E,())) ?_ ?_
 ·refine bL E.length (λd p=>p=((d:Z),((0:Z),((0:Z),([],([],([],()))))),gE (E.take d),E,())) rfl ?_ ?_
  ·rintro d _ k rfl;dsimp only;rw[aY (aL (show(d:Z)<al E by simp only[bf];omega)),lF k,bi aa];have q:(gE (E.take d)).length<=10000:=cu (aiH _ _) (by rw[air];omega);unfold gE at*;rw[Rd k];by_cases i:s5 E[d]=bp
   ·have e:=i;unfold s5 at e;rw[aY e,au i,dc (by simp only[i5,oH];omega)];exact bu.2 bn
   have e:=i;unfold s5 at e;rw[a1 (by simpa using e),az i,mK];exact bu.2 bn
  rintro _ rfl;dsimp only;rw[a1 (aI (show¬((E.length:Z)<al E) by simp only[bf];omega)),ch (cd _)];exact bu.2 bn
 rintro _ rfl;dsimp only;exact bz (TH b.hr b.hc aa (xH m) (xG n)) (bu.2 bn)
def Jx (k:mI a f c g) (e:hJ a a f c g) (j:gz a a f c g=0):sG (((a:Z),(a:Z),f,c,g,()),())=Y (rx a a (gE (c6 f c g a)),0,()):=by
 have i:=(jE.1 j).1;have m:=rf i a (cd _);have n:=re i;have s:=k.el;have t:=k.xN;have r:(c6 f c g a).length<=10000:=(by rw[zX i a (cd _)];have:=i.p9 a (cd _);have:=e.hi;omega);unfold sG;refine ai e.vu ?_;dsimp only;rw[j,fO,aL bn];refine ai (P2 e j) ?_;dsimp only;generalize c6 f c g a=E at*;refine bQ.1 ?_;refine bD (P:=λo=>o=(((0:Z),((0:Z),([],([],([],()))))),gE E,())) ?_ ?_
 ·refine bL E.length (λb p=>p=((b:Z),((0:Z),((0:Z),([],([],([],()))))),gE (E.take b),())) rfl ?_ ?_
  ·rintro b _ l rfl;dsimp only;rw[aY (aL (show(b:Z)<al E by simp only[bf];omega)),e1 l,bi aa];have q:(gE (E.take b)).length<=10000:=cu (aiH _ _) (by rw[air];omega);unfold gE at*;rw[Rd l];by_cases h:s5 E[b]=bp
   ·have d:=h;unfold s5 at d;rw[aD,aD,aY d,au h,aD,dc (by simp only[i5,oH];omega)];exact bu.2 bn
   have d:=h;unfold s5 at d;rw[aD,aD,a1 (by simpa using d),az h,mK];exact bu.2 bn
  rintro _ rfl;dsimp only;rw[a1 (aI (show¬((E.length:Z)<al E) by simp only[bf];omega)),ch (cd _)];exact bu.2 bn
 rintro _ rfl;dsimp only;exact bz (abe e.hr e.hc aa (xH m) (xG n)) (bu.2 bn)
def jY (b:ew) (a:aif):eu:=(bI a.length).map λ(c:X)=>(bI a.length).map λ(d:X)=>br (a.getD d 0∈b.getD (a.getD c 0).toNat [])
theorem xu (b:ew) (a:aif):(jY b a).length=a.length:=by simp[jY]
theorem Gv (d:a<c.length) (e:b<c.length):hy (jY l c) a b=br (c.getD b 0∈l.getD (c.getD a 0).toNat []):=by grind [aiZ,hy,jY]
theorem adK (f:0<=d/\d<l.length) (g:0<=k/\k<l.length):∃a,ao (oz l) d=Y a/\ao a k=Y (br (k∈l.getD d.toNat [])):=by
 have c:d.toNat<l.length:=aa;have e:k.toNat<l.length:=aa;refine⟨(bI l.length).map λ(b:X)=>br ((b:Z)∈l[d.toNat]),?_,?_⟩
 ·simp_all [au,Rc,ao]
 unfold ao;grind
theorem Sa (B:fj l) (w:∀c∈l,c.length<4611686018427387904) (G:l.length<=200) (s:∀m∈c,0<=m/\m<(l.length:Z)) (D:c.Nodup) (R:c.length<=400):Du ((l,()),c,())=Y ((jG (jY l c),()),0,()):=by
 classical
 rw[<-bQ];unfold Du;have C:ix l=0:=(by simp_all [az,au,ix]);have aq:br (∀m∈c,0<=m/\m<(l.length:Z))=bp:=aij s;have A:br (¬c.Nodup)=bq:=aiO (λb=>b D);simp only[AY l w,C,Sm c _ aa,aq,Sw c aa,A,KZ w G (λg K=>(B.asc g K).2),Mx c.length aa,aD,bne_self_eq_false,bP,gQ];simp only[bX];refine cz (P:=λu=>u.2.1=jY l c) ?_ ?_
 ·refine ae.for (i0:=0) c.length (λa v=>v.2.1=(bI c.length).map λ(g:X)=>if g<a then(jY l c).getD g [] else bJ c.length bq) rfl ?_ (da _) ?_ ?_
  ·apply hO;grind
  ·rintro a ⟨x,o,_⟩ _ i e;simp only at e;simp only[bZ,bX];refine⟨λ_=>?_,λp=>by grind⟩;refine cz (P:=λu=>u.2.1=(bI c.length).map λ(g:X)=>if g<a+1 then(jY l c).getD g [] else bJ c.length bq) ?_ (by grind [iO,bu]);refine ae.for (i0:=0) c.length (λd v=>v.2.1=o.set a ((bI c.length).map λ(h:X)=>if h<d then hy (jY l c) a h else bq)) rfl ?_ (da _) ?_ ?_
   ·show o=_;apply hO;intro f;rw[wa];by_cases k:a=f
    ·subst k;rw[au bn,e];simp[i,al9]
    grind
   ·rintro d ⟨O,n,_⟩ _ r j;simp only at j;have L:=s _ (cR i);have M:=s _ (cR r);obtain⟨N,H,I⟩:=adK L M;have S:n.length=c.length:=(by grind);have q:a<n.length:=aa;have J:n[a]=(bI c.length).map λ(h:X)=>if h<d then hy (jY l c) a h else bq:=by
     grind
    have E:ao c (a:Z)=Y c[a]:=gN (ba i);have F:ao c (d:Z)=Y c[d]:=gN (ba r);simp only[bZ,bX,ae.Ef,E,F,H,I,bu,ae.BQ,ae.IB,fJ];refine⟨λ_=>⟨⟨aa,q⟩,q,⟨aa,by grind⟩,q,by grind,iO aa,?_⟩,λp=>by grind⟩;rw[J,j,List.set_set];congr 1;apply hO;intro f;rw[wa,jh,jh];rcases cQ f c.length with b|b
    ·rw[Bw b];simp only[ja,e9,nb];by_cases k:d=f
     ·subst k;have y:c.getD d 0=c[d]:=(by grind);have z:c.getD a 0=c[a]:=(by grind);rw[au bn,au b,au aa,Gv i r,y,z]
     grind
    grind
   rintro⟨O,n,_⟩ j;simp only at j;simp only[bZ,bu];refine⟨λp=>by grind,λ_=>?_⟩;rw[j,e];apply hO;intro f;rw[wa,jh,jh];rcases cQ f c.length with b|b
   ·rw[Bw b];simp only[ja,e9,nb];by_cases k:a=f
    ·subst k;rw[au bn,au b,au aa];congr 1;have:(jY l c).getD a []=(bI c.length).map λ(h:X)=>hy (jY l c) a h:=by
      have Q:(jY l c).getD a []=(bI c.length).map λ(d:X)=>br (c.getD d 0∈l.getD (c.getD a 0).toNat []):=(by simp[jY,aiZ,i]);grind [Gv,aiy]
     simp_all
    grind
   grind
  rintro⟨x,o,_⟩ e;simp only at e;simp only[bZ,bu];refine⟨λp=>by grind,λ_=>?_⟩;rw[e];apply hO;intro f;rw[jh];rcases cQ f c.length with b|b
  ·simp_all [au,ba,xu,ja,Bw,aiZ]
  grind [ajU,xu]
 rintro⟨x,o,_⟩ e;simp only at e;subst e;rw[KL]
 ·grind [bu]
 ·intro N t;unfold jY at t;simp only[eZ] at t;obtain⟨a,_,rfl⟩:=t;simp[jY]
 grind [xu]
section
inductive iF (A:X->X->Prop) (P:X->Prop):X->X->Prop
 |one {i j:X}:A i j->iF A P i j
 |step {i m j:X}:A i m->P m->iF A P m j->iF A P i j
section
variable {A:X->X->Prop} {P:X->Prop}
def iF.trans (c:iF A P b a) (e:P a) (d:iF A P a h):iF A P b h:=by
 induction c with
 |one c=>exact .step c e d
 |step c f _ g=>exact .step c f (g e d)
def iF.symm (f:∀d e,A d e->A e d) (c:iF A P a b):iF A P b a:=by
 induction c with
 |one c=>exact .one (f _ _ c)
 |step c g _ h=>exact h.trans g (.one (f _ _ c))
theorem iF.mono (f:∀d,P d->w d) (c:iF A P a b):iF A w a b:=by
 induction c with
 |one c=>exact .one c
 |step c e _ g=>exact .step c (f _ e) g
def iF.insert_iff:iF A (λf=>P f\/f=h) a b↔iF A P a b\/(iF A P a h/\iF A P h b):=by
 constructor
 ·intro c
  induction c with
  |one c=>exact .inl (.one c)
  |@step a m b c g _ d=>
   rcases g with g|rfl
   ·rcases d with d|⟨l,i⟩
    ·exact .inl (.step c g d)
    exact .inr ⟨.step c g l,i⟩
   rcases d with d|⟨_,i⟩
   ·exact .inr ⟨.one c,d⟩
   exact .inr ⟨.one c,i⟩
 rintro(c|⟨j,k⟩)
 ·exact c.mono λf e=>.inl e
 exact(j.mono λf e=>.inl e).trans (.inr bn) (k.mono λf e=>.inl e)
def iF.none:iF A (λ_=>b6) a b↔A a b:=by
 constructor
 ·intro c;cases c with
  |one c=>exact c
  |step _ c _=>exact c.elim
 exact .one
theorem RD:qQ A h a b↔iF A (λf=>f<h) a b:=by
 constructor
 ·intro c
  induction c with
  |one c=>exact .one c
  |step c d _ e=>exact .step c d e
 intro c
 induction c with
 |one c=>exact .one c
 |step c d _ e=>exact .step c d e
end
end
section
theorem adh:∀{b a:aif},b.Pairwise (· < ·)->a.Pairwise (· < ·)->(∀c,c∈b↔c∈a)->b=a:=by
 intro b
 induction b with
 |nil=>
  intro a _ _ d;cases a with
  |nil=>rfl
  |cons e a=>grind [ama]
 |cons c b h=>
  intro a f g d;cases a with
  |nil=>grind
  |cons e a=>
   grind [ama,aj8]
structure yn (mQ:ew) (S:X->Prop) (T:eu) (gone:aib):Prop where
 Fy:T.length=mQ.length
 rows:∀v,(h:v<T.length)->T[v].length=mQ.length
 u0:gone.length=mQ.length
 Nb:∀v,(h:v<gone.length)->(gone[v]=bp↔S v)
 Kd:∀u w,(afa:u<T.length)->(hw:w<T[u].length)->¬S u->¬S w->(T[u][w]=bp↔u≠w/\iF (jP mQ) S u w)
def lD (b:eu) (c:aib) (e d:X):aif:=((bI d).filter λa=>hy b e a&&!c.getD a bq).map λ(a:X)=>(a:Z)
theorem ID {a:X->Prop} (b:yn l a x y) {v w:X} (k:v<l.length) (g:¬a v):(w:Z)∈lD x y v l.length↔w<l.length/\¬a w/\v≠w/\iF (jP l) a v w:=by
 unfold lD;simp only[eZ,ht,iq,bk,tE];have m:∀w,w<l.length->((hy x v w=bp/\y.getD w bq=bq)↔¬a w/\v≠w/\iF (jP l) a v w):=by
  intro w h;have e:v<x.length:=(by rw[b.Fy];exact k);have f:w<x[v].length:=(by rw[b.rows v e];exact h);have i:w<y.length:=(by rw[b.u0];exact h);have j:y.getD w bq=y[w]:=(by grind);rw[wy e f,j,Bool.eq_false_iff,ne_eq,b.Nb w i];constructor
  ·rintro⟨c,d⟩;exact⟨d,(b.Kd v w e f g d).1 c⟩
  rintro⟨c,d⟩;exact⟨(b.Kd v w e f g c).2 d,c⟩
 grind
theorem IP (b:eu) (c:aib) (d a:X):(lD b c d a).length<=a:=by grind [cu,aiH,cg,lD]
theorem IQ (e:d∈lD x y b a):∃c:X,d=(c:Z)/\c<a:=by grind [lD]
theorem KR (l:x.length=b) (u:∀a,(e:a<x.length)->x[a].length=b) (n:y.length=b) (s:b<=4294967296) (v:a<b):zM (Y (x,y,()),(a:Z),())=Y (lD x y a b,()):=by
 rw[<-bQ];unfold zM;have r:hC=4294967296:=rfl;simp only[bX,bu];refine cz (P:=λd=>d.1=lD x y a b) ?_ (by grind);refine ae.for (i0:=0) b (λi k=>k.1=lD x y a i) rfl rfl (da _) ?_ ?_
 ·rintro c ⟨j,_⟩ _ w f;simp only at f;have t:=IP x y a c;simp only[aD];rw[bZ];refine⟨λ_=>?_,λm=>by grind⟩;rw[bX,bX];have g:a<x.length:=aa;have h:c<x[a].length:=(by grind);have o:ao x (a:Z)=Y x[a]:=gN (ba g);have p:ao x[a] (c:Z)=Y x[a][c]:=gN (ba h);have q:ao y (c:Z)=Y (y.getD c bq):=gN (by grind);refine cz (P:=λd=>d=((hy x a c&&!y.getD c bq),j,())) ?_ ?_
  ·simp_all [bX,bZ,bu,wy]
  rintro _ rfl;simp only[bZ,bX,bu,ae.xC];refine⟨λe=>⟨by grind,iO aa,?_⟩,λe=>⟨iO aa,?_⟩⟩
  ·simp_all [au,n0,ald,i7,pq,ji,lD]
  simp_all [i7,pq,ji,n0,ald,az,lD]
 simp_all [aD,bZ,bu]
theorem Tu (e:a<x.length) (f:b<x[a].length) (c d:X):hy (x.set a (x[a].set b bp)) c d=(hy x c d||(c==a&&d==b)):=by grind [hy]
theorem Ou (a:eu) (b:aib) (d c:X):(lD a b d c).Pairwise (· < ·):=JY _ _
theorem RW (K:x.length=a) (O:∀b,(g:b<x.length)->x[b].length=a) (ap:y.length=a) (av:a<=4294967296) (a0:b<a):ae (zL ((x,y,()),(b:Z),())) (λp=>p.1.2.1=y.set b bp/\p.1.1.length=a/\(∀b,(g:b<p.1.1.length)->p.1.1[b].length=a)/\∀d c,d<a->c<a->(hy p.1.1 d c=bp↔hy x d c=bp\/((d:Z)∈lD x y b a/\(c:Z)∈lD x y b a/\d≠c))):=by
 unfold zL;simp only[KR K O ap av a0,aD];have am:=IP x y b a;have E:∀I∈lD x y b a,∃c:X,I=(c:Z)/\c<a:=λI Q=>IQ Q;have an:=Ou x y b a;generalize lD x y b a=f at am E an;have a3:∀l m:X,(g:l<f.length)->(ad:m<f.length)->f[l]=f[m]->l=m:=λl m g ad J=>by
  rcases r6 l m with C|C|C
  ·grind [aih]
  ·exact C
  grind [aih]
 simp only[bX];refine cz (P:=λe:dM×bt=>e.1.2.1=y/\e.1.1.length=a/\(∀b,(g:b<e.1.1.length)->e.1.1[b].length=a)/\∀d c,d<a->c<a->(hy e.1.1 d c=bp↔hy x d c=bp\/((d:Z)∈f/\(c:Z)∈f/\d≠c))) ?_ ?_
 ·refine ae.for (i0:=0) f.length (λh e=>e.1.2.1=y/\e.1.1.length=a/\(∀b,(g:b<e.1.1.length)->e.1.1[b].length=a)/\∀d c,d<a->c<a->(hy e.1.1 d c=bp↔hy x d c=bp\/((d:Z)∈f.take h/\(c:Z)∈f/\d≠c))) rfl ⟨bn,K,O,λd c _ _=>by simp⟩ (da _) ?_ ?_
  ·rintro h ⟨⟨R,S,_⟩,_⟩ _ H ⟨q,r,s,D⟩;simp only at q r s D;simp only[bZ,bX];refine⟨λ_=>?_,λM=>by grind⟩;refine cz (P:=λe:dM×bt=>e.1.2.1=y/\e.1.1.length=a/\(∀b,(g:b<e.1.1.length)->e.1.1[b].length=a)/\∀d c,d<a->c<a->(hy e.1.1 d c=bp↔hy x d c=bp\/((d:Z)∈f.take (h+1)/\(c:Z)∈f/\d≠c))) ?_ (by grind [iO,bu]);obtain⟨j,L,bl⟩:=E _ (cR H);refine ae.for (i0:=0) f.length (λk e=>e.1.2.1=y/\e.1.1.length=a/\(∀b,(g:b<e.1.1.length)->e.1.1[b].length=a)/\∀d c,d<a->c<a->(hy e.1.1 d c=bp↔hy x d c=bp\/((d:Z)∈f.take h/\(c:Z)∈f/\d≠c)\/(d=j/\(c:Z)∈f.take k/\d≠c))) rfl ⟨q,r,s,λd c v w=>by grind⟩ (da _) ?_ ?_
   ·rintro k ⟨⟨A,T,_⟩,_⟩ _ u ⟨i,n,o,z⟩;simp only at i n o z;obtain⟨B,F,bs⟩:=E _ (cR u);have U:ao f (h:Z)=Y (j:Z):=gN (by rw[ba H,L]);have V:ao f (k:Z)=Y (B:Z):=gN (by rw[ba u,F]);have t:j<A.length:=aa;have G:B<A[j].length:=(by grind);simp only[bZ,bX,U,V,bu,ae.Ef,ae.BQ,ae.IB,fJ];refine⟨λ_=>⟨λN=>⟨⟨aa,t⟩,t,⟨aa,G⟩,t,G,iO aa,i,by grind,λI Q=>?_,λd c v w=>?_⟩,λbx=>⟨iO aa,i,n,o,λd c v w=>?_⟩⟩,λM=>by grind⟩
    ·rw[anj];grind
    ·have N:h≠k:=(by grind);have a4:j≠B:=λJ=>N (a3 h k H u (by rw[L,F,J]));rw[Tu t G,je,z d c v w,<-tx u,F,h9,gp];grind
    grind [tx,aik]
   rintro⟨⟨A,T,_⟩,_⟩ ⟨i,n,o,z⟩;simp only at i n o z;simp only[bZ,bu];refine⟨λM=>by grind,λ_=>⟨i,n,o,λd c v w=>?_⟩⟩;grind [cA,tx,aik]
  rintro⟨⟨R,S,_⟩,_⟩ ⟨q,r,s,D⟩;simp only at q r s D;simp only[bZ,bu];grind
 grind [bX,ae.Ef,ae.BQ,bu,ae.IB,aiT]
theorem RV (F:fj l) (G:l.length<=4294967296) (b:yn l w x y) (j:a<l.length) (p:¬w a):ae (zL ((x,y,()),(a:Z),())) (λB=>yn l (λg=>w g\/g=a) B.1.1 B.1.2.1):=by
 refine(RW b.Fy b.rows b.u0 G j).mono ?_;rintro⟨⟨M,h,_⟩,_⟩ ⟨k,m,n,o⟩;simp only at k m n o|-;subst k;have s:=ale F;refine⟨m,n,by rw[akl];exact b.u0,λg N=>?_,λc e H I q r=>?_⟩
 ·rw[anj];by_cases J:a=g
  ·grind
  rw[az J,b.Nb];grind
 have t:c<l.length:=aa;have v:e<l.length:=(by grind);have:=o c e t v;rw[wy H I] at this;have i:c<x.length:=(by rw[b.Fy];omega);have u:e<x[c].length:=(by rw[b.rows c i];omega);have z:¬w c:=λd=>q (.inl d);have A:¬w e:=λd=>r (.inl d);have K:a≠c:=λd=>q (.inr d.symm);have L:a≠e:=λd=>r (.inr d.symm);rw[this,wy i u,b.Kd c e i u z A,ID b j p,ID b j p,iF.insert_iff];constructor
 ·rintro(⟨h,f⟩|⟨⟨_,_,_,f⟩,⟨_,_,_,D⟩,E⟩)
  ·grind
  exact⟨E,.inr ⟨f.symm s,D⟩⟩
 rintro⟨h,f|⟨f,C⟩⟩
 ·grind
 exact .inr ⟨⟨t,z,K,f.symm s⟩,⟨v,A,L,C⟩,h⟩
theorem RO (e:fj l) (j:∀n∈l,n.length<4611686018427387904) (k:l.length<=200):ae (Dv ((l,()),())) (λg=>yn l (λ_=>b6) g.1.1 g.1.2.1):=by
 unfold Dv;have o:hC=4294967296:=rfl;simp only[KZ j k (λc m=>(e.asc c m).2),aD,bX,ae.IA,bu,fJ];refine⟨⟨aa,aa,aa⟩,J9 l,λc i=>?_,ac,λc i=>by simp,λb d p q _ _=>?_⟩
 ·simp[oz]
 rw[iF.none];have f:b<l.length:=(by grind [J9]);have r:d<l.length:=(by grind [oz]);have h:(oz l)[b][d]=br ((d:Z)∈l[b]):=(by grind [oz,aiZ]);rw[h,aiF];constructor
 ·exactλa=>⟨jP.ne e ⟨f,a⟩,f,a⟩
 exactλa=>a.2.2
open Classical in
theorem acm (i:fj l) (j:∀s∈l,s.length<4611686018427387904) (p:l.length<=200):zN ((l,()),())=Y ((bI l.length).map (g2 l),0,()):=by
 rw[<-bQ];unfold zN;have A:hC=4294967296:=rfl;have n:ix l=0:=(by simp_all [az,au,ix]);simp only[AY l j,n,aD,bne_self_eq_false,bP];simp only[bX];refine(RO i j p).mono ?_;rintro⟨⟨f,g,_⟩,_⟩ c;simp only at c;simp only[bX];refine cz (P:=λt=>t.1=(bI l.length).map (g2 l)) ?_ (by grind [bu]);refine ae.for (i0:=0) l.length (λa h=>h.2.1=(bI a).map (g2 l)/\yn l (λk=>k<a) h.1.1 h.1.2.1) rfl ⟨bn,?_⟩ (da _) ?_ ?_
 ·grind
 ·rintro a ⟨⟨f,g,_⟩,C,_⟩ _ e ⟨q,c⟩;simp only at q c;have B:=IP f g a l.length;have y:[(a:Z)]++lD f g a l.length=g2 l a:=by
   have o:=λd=>ID c (v:=a) (w:=d) e (akf a);refine adh ?_ (L7 l a) ?_
   ·rw[yC,mM];grind [IQ,Ou]
   intro k;constructor
   ·intro b;rw[yC,fR] at b;rcases b with rfl|b
    ·exact vd.2 ⟨e,.inl bn⟩
    obtain⟨d,rfl,_⟩:=IQ b;have:=(o d).1 b;exact vd.2 ⟨this.1,.inr ⟨aa,RD.2 this.2.2.2⟩⟩
   intro b;rw[yC,fR];have r:=b;unfold g2 um at b;simp only[eZ] at b;obtain⟨d,_,rfl⟩:=b;obtain⟨u,m|⟨m,x⟩⟩:=vd.1 r
   ·omega
   grind [RD]
  rw[bZ];refine⟨λ_=>?_,λz=>by grind⟩;simp only[KR c.Fy c.rows c.u0 (aa:l.length<=4294967296) e,aD,bX,ae.xC];refine⟨by grind,by grind,?_⟩;refine(RV i aa c e (akf a)).mono ?_;grind [aiI,iO,bu]
 simp_all [bZ,bu]
end
def Ti (d:c.Pairwise (· < ·)) (e:∀g∈c,0<=g):∀a,(b:a<c.length)->(a:Z)<=c[a]:=by
 intro a
 induction a with
 |zero=>intro b;exact e _ (cR b)
 |succ a f=>
  intro b;have h:=f aa;have i:=AK.1 d a b;omega
def qt.length {a:aif} {c:X} (b:qt a c):a.length<=c:=by
 rcases pB a.length with d|d
 ·omega
 have g:=Ti b.1 (λf e=>(b.2 f e).1) (a.length-1) aa;have h:=(b.2 _ (cR (aa:a.length-1<a.length))).2;omega
def fj.rows (b:fj l):∀a∈l,a.length<=l.length:=by intro a c;obtain⟨e,d,rfl⟩:=hu.1 c;exact(b.asc e d).length
def fj.hc (b:fj l) (d:l.length<=200):∀a∈l,a.length<4611686018427387904:=λa c=>by have:=b.rows a c;omega
def qT:ix l=0↔l.length<=200/\fj l:=by
 unfold ix;by_cases a:200<l.length
 ·rw[au a];constructor
  ·intro a;omega
  intro a;omega
 rw[az a];by_cases b:fj l
 ·rw[au b];exact⟨λ_=>⟨aa,b⟩,λ_=>rfl⟩
 rw[az b];exact⟨λa=>by omega,λa=>absurd a.2 b⟩
def PK (a:ew) (b:X):Z:=((g2 a b)[1]?).getD (-1)
section
def LZ (P:X->Prop):X->X
 |0=>0
 |k+1=>LZ P k+(open Classical in if P k then 1 else 0)
section
variable {P Q:X->Prop} {k:X}
end
def FY (n:X) (f:X->Z):Prop:=∀a,a<n->f a=-1\/((a:Z)<f a/\f a<n)
def Sn (n:X) (f:X->Z) (a b:X):Prop:=a<n/\f a=(b:Z)
def Sub (n:X) (f:X->Z) (a b:X):Prop:=BI (Sn n f) a b
section
variable {n:X} {f:X->Z} (A:FY n f)
include A
def jv (n:X) (f:X->Z) (b:X):X:=LZ (λa=>Sub n f a b) n
def RP (n:X) (f:X->Z):Prop:=∀a,a<n->∀b,Sub n f b a->a<b+jv n f a
end
end
section
section
variable {B:ew} (C:fj B) (A:B.length<=200)
include C A
end
def X6 (b:aif) (n a:X):Z:=(b[a+1]?).getD n
section
variable {n:X} {f:X->Z} (D:FY n f) (A:n<=200)
include D A
end
end
section
theorem T3 (A:ew) (a:X):(g2 A a).length<=A.length:=T1 A a A.length
section
variable {A:ew} (B:fj A) (C:A.length<=200)
include B C
end
end
section
section
variable {A:ew} (B:fj A) (C:A.length<=200)
include B C
theorem acn:zN ((A,()),())=Y (aB A.length (g2 A),0,()):=acm B (B.hc C) C
end
end
section
structure KU (n:X) (f:X->Z) (J1:aif) (m:X) (s e:X->X):Prop where
 len:J1.length=m
 st:J1=aB m λk=>(s k:Z)
 afc:0<n->0<m/\s 0=0
 afb:n=0->m=0
 ok:∀k,k<m->s k<e k/\e k<=n/\e k<=s k+jv n f (e k-1)
 aP:∀k,k<m->X6 J1 n k=(e k:Z)
 ae1:∀k,k+1<m->e k=s (k+1)
 el:∀k,k+1=m->e k=n
section
variable {A:ew} (B:fj A) (C:A.length<=200)
include B C
end
end
section
def hf (s:X->X) (a:X):X->Z
 |0=>-1
 |k+1=>if s k<=a then(k:Z) else hf s a k
abbrev df:=Z×dT
section
variable {n:X} {f:X->Z} {B:aif} {m:X} {s e:X->X} (C:KU n f B m s e)
include C
end
section
variable {A:ew} (D:fj A) (F:A.length<=200)
include D F
end
end
def Se:∀a:X,a<201->CL (1,(a:Z),())=Y (0,(a:Z),()):=by unfold CL;decide+kernel
def Sr (c:Z) (t:0<a) (u:a<=200):CZ ([c],(a:Z),())=Y (bJ a c,()):=by
 unfold CZ;have aq:bE.wrap (a:Z)=(a:Z):=(by rw[RG];omega);have m:bE.wrap ((1:X):Z)=1:=(by rw[RG];rfl);have r:¬((a:Z)<0):=aa;have p:¬((a:Z)>9223372036854775807):=aa;simp only[cO,az r,aD,GX,aq,m,Se a aa,wJ,(aa:¬((0:Z)>0)),if_false,aI p,bP,Bk (aa:a<9223372036854775808),h6 (aa:a<=4294967296),qH,px,Nat.sub_zero];rw[<-bQ];refine bD (P:=λl=>l.1=bJ a c) ?_ (by rintro⟨l,⟨⟩⟩ g;simp only at g;subst g;exact bu.2 bn);have s:∀b:X,b<=a->bJ b c++bJ (a-b) 0=aB a (λd=>if d<b then c else 0):=λb i=>(by rw[jc,jc,zZ];have:b+(a-b)=a:=aa;rw[this]);refine aiA (λf=>∃b:X,f.1=(b:Z)/\0<b/\b<=a/\f.2.1=aB a (λd=>if d<b then c else 0)) (λf=>a-f.1.toNat) ⟨1,?_,aa,aa,?_⟩ ?_
 ·show((min 1 a:X):Z)=1;rw[hI aa];rfl
 ·show jm (bJ a 0) [c] 0 a=_;unfold jm;rw[hI (show[c].length<=a-0 by simp;omega),List.take_zero,fB (show[c].length<=a-0 by simp;omega),ir,List.drop_replicate,jc];show[c]++aB (a-1) (λ_=>0)=_;have:[c]=aB 1 (λ_=>c):=rfl;rw[this,zZ];have:1+(a-1)=a:=aa;rw[this]
 rintro⟨f,w,⟨⟩⟩ ⟨b,i,v,q,k⟩;simp only at i k;subst i k;simp only[cX];by_cases g:b<a
 ·simp(disch:=omega) only[au,vh,p8,Jt,aD,ja,lP,DT,cX];refine bu.2 ⟨⟨b+min b (a-b),RH aa,aa,aa,?_⟩,?_⟩
  ·show jm (aB a λd=>if d<b then c else 0) (aB b λd=>if d<b then c else 0) b a=_;unfold jm;have n:(aB b λd=>if d<b then c else 0)=aB b λ_=>c:=db λd h=>(by rw[au h]);have o:(aB b λ(_:X)=>c).take (a-b)=aB (min b (a-b)) λ_=>c:=by
    rcases Nat.le_total (a-b) b with e|e
    ·rw[DT _ _ _ e,Nat.min_eq_right e]
    rw[fB (by rw[cX];exact e),hI e]
   rw[DT _ _ _ q,cX,n,o,Vf,zZ,zZ];have:b+(min b (a-b)+(a-(b+min b (a-b))))=a:=aa;rw[this];refine db λd h=>?_;by_cases e:d<b
   ·rw[au e,au aa]
   rw[az e];by_cases j:d-b<min b (a-b)
   ·rw[au j,au aa]
   rw[az j,az aa,az aa]
  show a-(bK.wrap ((b:Z)+((min b (a-b):X):Z))).toNat<a-(b:Z).toNat;rw[RH aa];omega
 simp(disch:=omega) only[az];refine bu.2 ?_;show _=_;rw[jc];exact db λd h=>by rw[au aa]
def bd (a:bm df):X->X
 |0=>0
 |k+1=>((a[k]?).map λ(b:df)=>b.2.1.toNat).getD 0
def nU (d:X) (c:bm df) (b:X):Prop:=∃a:df,c[b]?=Y a/\a.1=(bd c b:Z)/\(bd c b:Z)<a.2.1/\a.2.1<=(d:Z)
def lM (c:X) (a:bm df):Prop:=(∀b,b<a.length->nU c a b)/\bd a a.length=c
theorem TL {b:bm df} (c:a<b.length) (d:0<=b[a].2.1):(bd b (a+1):Z)=b[a].2.1:=by grind [bS,bd]
theorem nU.at {c:bm df} (i:a<c.length) (d:nU b c a):c[a].1=(bd c a:Z)/\c[a].2.1=(bd c (a+1):Z)/\bd c a<bd c (a+1)/\bd c (a+1)<=b:=by obtain⟨j,e,f,g,h⟩:=d;grind [TL,aju,bS]
theorem LH {d:bm df} {m:X} (f:∀e,e<m->e<d.length/\nU a d e):∀c b,c<=b->b<=m->bd d c<=bd d b:=by
 intro c b l
 induction b with
 |zero=>grind
 |succ b j=>
  intro n;rcases cQ c (b+1) with g|g
  ·have k:=j aa aa;obtain⟨h,i⟩:=f b aa;have:=i.at h;omega
  grind
theorem wH {c:bm df} {m:X} (f:∀a,a<m->a<c.length/\nU h c a) (n:a<m) (i:bd c a<=b) (j:b<bd c (a+1)):∀d,a<d->d<=m->hf (bd c) b d=(a:Z):=by
 intro d
 induction d with
 |zero=>omega
 |succ e o=>
  intro k l;rcases cQ a e with g|g
  ·have:=LH f (a+1) e aa aa;grind [jg.hf]
  obtain rfl:e=a:=aa;simp_all [au,jg.hf]
theorem wG {c:bm df} (f:lM b c) (g:a<b):∃d,d<c.length/\bd c d<=a/\a<bd c (d+1):=by
 have h:∀e,e<=c.length->a<bd c e->∃d,d<e/\bd c d<=a/\a<bd c (d+1):=by
  intro e
  induction e with
  |zero=>intro _ f;exact absurd f (alf _)
  |succ e k=>
   grind
 obtain⟨d,i,j⟩:=h c.length (bc _) (by rw[f.2];exact g);grind
theorem T5 (b:bm df) (D:a<=200) (C:b.length<4611686018427387904):ae (DD (b,(a:Z),())) (λf=>(f.2.1=bp↔lM a b)/\(lM a b->f.1=aB a (λg=>hf (bd b) g b.length))):=by
 classical
 unfold DD;refine bD (P:=λv=>match v with|.inl f=>(∀c,c<b.length->nU a b c)/\f.1=aB (bd b b.length) (λg=>hf (bd b) g b.length)|.inr f=>¬lM a b/\f=([],bq,())) ?_ ?_
 ·refine ae.for b.length (λc w=>(∀d,d<c->d<b.length->nU a b d)/\w.1=aB (bd b c) (λg=>hf (bd b) g c)) (i0:=0) rfl ⟨λd e=>by omega,bn⟩ (da _) ?_ ?_
  ·rintro c ⟨u,⟨⟩⟩ _ k ⟨p,i⟩;simp only at i;subst i;have q:∀d,d<c->d<b.length/\nU a b d:=λd o=>⟨aa,p d o aa⟩;have B:bd b c<=a:=by
    cases c with
    |zero=>exact da _
    |succ c=>exact((q c aa).2.at aa).2.2.2
   have s:=gN (ba k);simp(disch:=omega) only[cO,au,s,aD,cX,fO];have A:¬(b[c].1=(bd b c:Z)/\(bd b c:Z)<b[c].2.1/\b[c].2.1<=(a:Z))->¬lM a b:=λe l=>(by obtain⟨E,j,n⟩:=l.1 c k;grind);by_cases h:b[c].1=(bd b c:Z)
   ·by_cases x:b[c].2.1<=b[c].1
    ·simp only[h,aiK,gQ,show(bq==bq)=bp from rfl,bG,aL (aa:b[c].2.1<=(bd b c:Z)),show(bp==bq)=bq from rfl,bP,aD];grind [bu]
    by_cases m:b[c].2.1>(a:Z)
    ·simp only[h,aiK,gQ,show(bq==bq)=bp from rfl,bG,aI (aa:¬b[c].2.1<=(bd b c:Z)),aL m,aD];grind [bu]
    have r:nU a b c:=⟨b[c],ba k,h,aa,aa⟩;obtain⟨j,n,y,z⟩:=r.at k;have t:bK.wrap (b[c].2.1-b[c].1)=((bd b (c+1)-bd b c:X):Z):=(by rw[j,n,aeD aa aa]);simp only[h,aiK,gQ,show(bq==bq)=bp from rfl,bG,aI (aa:¬b[c].2.1<=(bd b c:Z)),aI m,bP,aD];rw[<-h];rw[t,Sr _ aa aa];simp(disch:=omega) only[aD,qH,dc,iN,cX];refine bu.2 ⟨bn,λd o e=>?_,?_⟩
    ·grind
    show aB (bd b c) (λg=>hf (bd b) g c)++bJ (bd b (c+1)-bd b c) (c:Z)=_;grind [db,jc,zZ,jg.hf,bd]
   simp only[aI h,ma,show(bp==bq)=bq from rfl,bP,bG,aD];grind [bu]
  simp_all [cO,az,bu]
 rintro(⟨u,⟨⟩⟩|f) e
 ·obtain⟨j,i⟩:=e;simp only at i;subst i;simp only[cX];refine bu.2 ⟨?_,λl=>?_⟩
  ·show(((bd b b.length:X):Z)==(a:Z))=bp↔_;rw[beq_iff_eq];exact⟨λe=>⟨j,aa⟩,λe=>by have:=e.2;omega⟩
  show aB (bd b b.length) _=_;rw[l.2]
 grind [bu]
def qJ (c:X) (a:df) (b:X):Prop:=∀d:b<a.2.2.1.length,(b<(a.2.1-a.1).toNat->a.2.2.1[b]=a.1+(b:Z))/\((a.2.1-a.1).toNat<=b->a.2.1<=a.2.2.1[b]/\a.2.2.1[b]<(c:Z)/\a.2.2.1[b-1]<a.2.2.1[b])
def jy (c:X) (a:df):Prop:=(a.2.1-a.1).toNat<=a.2.2.1.length/\∀b,0<=b->b<a.2.2.1.length->qJ c a b
theorem ac3 {n:X} {x:df} (o:0<=x.1) (p:x.1<x.2.1) (q:x.2.1<=(n:Z)) (s:n<=200) (r:x.2.2.1.length<4611686018427387904):DF (x,(n:Z),())=Y ((open Classical in decide (jy n x)),()):=by
 classical
 obtain⟨b,j⟩:∃b:X,x.2.1-x.1=(b:Z):=⟨(x.2.1-x.1).toNat,aa⟩;have t:(x.2.1-x.1).toNat=b:=aa;unfold DF;simp only[j,Bk (aa:b<9223372036854775808),cO];by_cases l:b<=x.2.2.1.length
 ·rw[az aa];refine ai (s4 (τ:=bt) x.2.2.1.length (qJ n x) () (.inl ()) (.inr (bq,())) 0 bn (da _) ?_ ?_) ?_
  ·intro a _ i _;have h:=gN (ba i);rw[au aa,h];simp only[aD,yY,fO];by_cases m:a<b
   ·rw[au aa,ct aa aa];simp only[aD];by_cases c:x.2.2.1[a]=x.1+(a:Z)
    ·have:qJ n x a:=λ_=>⟨λ_=>c,λg=>by omega⟩;rw[au this,aL c];simp(disch:=omega) only[gQ,bP,az,aD,iN]
    simp_all [az,aI,qJ]
   rw[az aa];simp only[aD,bP];rw[au aa];simp only[wJ];have k:ao x.2.2.1 (bK.wrap ((a:Z)-1))=Y (x.2.2.1[a-1]'(by omega)):=by grind [gN,bS,vN]
   by_cases c:x.2.2.1[a]<x.2.1
   ·grind [qJ]
   rw[az c];by_cases e:x.2.2.1[a]>=(n:Z)
   ·grind [qJ]
   rw[az e,k];simp only[aD];by_cases f:x.2.2.1[a]<=x.2.2.1[a-1]
   ·grind [qJ]
   have:qJ n x a:=λ_=>⟨λg=>by omega,λ_=>⟨aa,aa,aa⟩⟩;rw[au this,az f];grind [iN]
  ·grind
  by_cases d:∀a,0<=a->a<x.2.2.1.length->qJ n x a
  ·rw[au d,aL (show jy n x from⟨aa,d⟩)]
  simp_all [az,aI,jy]
 simp_all [au,aI,jy]
def gO (a:bm df) (b:Z):aif:=((a[b.toNat]?).map λ(c:df)=>c.2.2.1).getD []
def iZ (c:bm df) (a:df):Prop:=
 (a.2.2.1.length=(a.2.1-a.1).toNat/\a.2.2.2.1=-1)\/
 (∃d:(a.2.1-a.1).toNat<a.2.2.1.length,a.2.2.2.1=hf (bd c) (a.2.2.1[(a.2.1-a.1).toNat]).toNat c.length/\∀b,(a.2.1-a.1).toNat<=b->(e:b<a.2.2.1.length)->a.2.2.1[b]∈gO c a.2.2.2.1)
theorem jy.asc {b:df} (f:0<=b.1) (g:b.1<b.2.1) (c:jy a b):b.2.2.1.Pairwise (· < ·):=by rw[AK];intro e d;have aw:=c.2 e (da _) aa aa;have h:=c.2 (e+1) (da _) d d;grind
theorem tq {b:bm df} (c:a<b.length):gO b (a:Z)=b[a].2.2.1:=by grind [aiT,bS,gO]
theorem KF {v:Z} (b:c.length<4611686018427387904) (d:c.Pairwise (· < ·)):∃a,uA (c,v,())=Y (a,br (v∈c),()):=by obtain⟨⟨a,e,⟨⟩⟩,f,g⟩:=KG c v b d;grind
theorem W2 {c:bm df} (V:b<=200) (n:lM b c) (w:∀L∈c,L.2.2.1.length<4611686018427387904) (u:∀a,(r:a<c.length)->jy b c[a]) (i:a<c.length):DE (c,aB b (λz=>hf (bd c) z c.length),c[a],())=Y ((open Classical in decide (iZ c c[a])),()):=by
 classical
 have t:=(n.1 a i).at i;have p:=u a i;have D:=w _ (cR i);generalize am:c[a]=d at t p D;obtain⟨N,O,P,Q⟩:=t;obtain⟨e,F⟩:∃e:X,d.2.1-d.1=(e:Z):=⟨(d.2.1-d.1).toNat,aa⟩;have x:(d.2.1-d.1).toNat=e:=aa;have G:=p.1;rw[x] at G;unfold DE;simp(disch:=omega) only[F,Bk (aa:e<9223372036854775808),vh,aD,p8,ja,hP,na,cO,gK,fO];by_cases R:d.2.2.1.length=e
 ·rw[au aa];have:br (d.2.2.2.1=-1)=br (iZ c d):=by
   simp_all [cy,iZ]
  grind
 have o:e<d.2.2.1.length:=aa;have ad:=(p.2 e (da _) o o).2 aa;obtain⟨k,y⟩:∃k:X,d.2.2.1[e]=(k:Z):=⟨(d.2.2.1[e]).toNat,aa⟩;have K:k<b:=aa;have A:ao (d.2.2.1.drop e) 0=Y (k:Z):=(by grind [gN]);rw[az aa];simp(disch:=omega) only[A,aD,rr];obtain⟨g,h,H,I⟩:=wG n K;have q:hf (bd c) k c.length=(g:Z):=wH (m:=c.length) (λa i=>⟨i,n.1 a i⟩) h H I c.length h (bc _);rw[q];have T:iZ c d↔d.2.2.2.1=(g:Z)/\∀f,0<=f->f<d.2.2.1.length-e->d.2.2.1.getD (e+f) 0∈c[g].2.2.1:=by
  unfold iZ;rw[x];constructor
  ·rintro(r|⟨r,j,l⟩)
   ·omega
   rw[y,fJ,q] at j;grind [bS,tq]
  rintro⟨j,l⟩;refine .inr ⟨o,by rw[y,fJ,q,j],λf s S=>?_⟩;rw[j,tq h];have:=l (f-e) (da _) aa;grind
 by_cases s:d.2.2.2.1=(g:Z)
 ·simp only[s,aiK,gQ,bP];have B:c[g].2.2.1.Pairwise (· < ·):=by
   have:=(n.1 g h).at h;exact(u g h).asc aa aa
  have J:=w _ (cR h);refine ai (s4 (τ:=bt) (d.2.2.1.length-e) (λf=>d.2.2.1.getD (e+f) 0∈c[g].2.2.1) () (.inl ()) (.inr (bq,())) 0 bn (da _) ?_ ?_) ?_
  ·intro f _ U _;have j:ao (d.2.2.1.drop e) (f:Z)=Y (d.2.2.1.getD (e+f) 0):=by
    grind [bS,gN]
   have l:ao c (g:Z)=Y c[g]:=gN (ba h);obtain⟨M,C⟩:=KF (v:=d.2.2.1.getD (e+f) 0) J B;rw[au aa,j,l];simp only[aD,C];by_cases E:d.2.2.1.getD (e+f) 0∈c[g].2.2.1
   ·simp(disch:=omega) only[E,aiK,gQ,bP,cj,iN]
   grind
  ·grind
  grind
 grind
section
theorem Ub {l:bm df} (C:a<=200) (D:l.length<4611686018427387904) (e:lM a l) (F:∀i∈l,i.2.2.1.length<4611686018427387904):CT (l,(Y (a:Z),()),())=Y ((open Classical in decide (¬∀b,(d:b<l.length)->jy a l[b])),()):=by
 classical
 rw[<-bQ];unfold CT;refine bD (P:=λh=>0<=h.1↔¬∀b,(d:b<l.length)->jy a l[b]) ?_ ?_
 ·unfold G1;refine bD (Iw l.length (λb=>∀d:b<l.length,jy a l[b]) ?_ ?_) ?_
  ·intro b c;have f:=gN (ba c);obtain⟨j,k,m,o⟩:=(e.1 b c).at c;have g:=ac3 (n:=a) (x:=l[b]) aa aa aa C (F _ (cR c));simp(disch:=omega) only[cO,au,f,aD,Ha,g];by_cases d:jy a l[b]
   ·simp(disch:=omega) only[d,aiK,gQ,bP,c,alg,cj,iN]
   grind
  ·grind
  grind [bu]
 grind [bu,ge_iff_le]
theorem Uc {l:bm df} (C:a<=200) (D:l.length<4611686018427387904) (e:lM a l) (F:∀k∈l,k.2.2.1.length<4611686018427387904) (f:∀b,(c:b<l.length)->jy a l[b]):CU (l,(Y l,Y (aB a (λj=>hf (bd l) j l.length)),()),())=Y ((open Classical in decide (¬∀b,(c:b<l.length)->iZ l l[b])),()):=by
 classical
 rw[<-bQ];unfold CU;refine bD (P:=λi=>0<=i.1↔¬∀b,(c:b<l.length)->iZ l l[b]) ?_ ?_
 ·unfold G2;refine bD (Iw l.length (λb=>∀c:b<l.length,iZ l l[b]) ?_ ?_) ?_
  ·intro b d;have g:=gN (ba d);have h:=W2 C e F f d;simp(disch:=omega) only[cO,au,g,aD,Hb,h];by_cases c:iZ l l[b]
   ·simp(disch:=omega) only[c,aiK,gQ,bP,d,alg,cj,iN]
   grind
  ·grind
  grind [bu]
 grind [bu,ge_iff_le]
def RU (A:ew) (l:bm df) (b a:X):Prop:=b<a->(a:Z)∈gO l (hf (bd l) b l.length)
def hq (A:ew) (l:bm df):Prop:=lM A.length l/\(∀a,(d:a<l.length)->jy A.length l[a])/\(∀a,(d:a<l.length)->iZ l l[a])/\∀c b,jP A c b->RU A l c b
def xj (A:ew) (l:bm df):Z:=if ix A≠0 then ix A else(open Classical in if hq A l then 0 else 211)
section
variable {A:ew} (B:fj A) (C:A.length<=200) {l:bm df} (D:l.length<4611686018427387904) (F:∀y∈l,y.2.2.1.length<4611686018427387904)
include B C D F
theorem Vn:uN ((A,()),l,())=Y ((open Classical in if hq A l then 0 else 211),()):=by
 classical
 have I:=B.hc C;unfold uN;simp only[FM A I,qT.2 ⟨C,B⟩,aD,fO,aiK,gQ,bP];obtain⟨⟨ap,T,⟨⟩⟩,z,t,u⟩:=T5 l C D;simp only at t u;simp only[z,aD,wJ];by_cases f:lM A.length l
 ·have w:=t.2 f;have O:=u f;subst w O;simp only[gQ,show(bq==bq)=bp from rfl,bG,Ub C D f F,aD];by_cases j:∀b,(d:b<l.length)->jy A.length l[b]
  ·simp only[j,amb,aj1,decide_false,bP,aD,Uc C D f F j];by_cases q:∀b,(d:b<l.length)->iZ l l[b]
   ·simp only[q,amb,aj1,decide_false,bP];have V:hq A l↔∀a,0<=a->a<A.length->∀d:a<A.length,∀b,0<=b->b<A[a].length->∀c:b<A[a].length,A[a][b]<=(a:Z)->(a:Z)∈gO l (hf (bd l) A[a][b].toNat l.length):=by
     constructor
     ·rintro⟨_,_,_,E⟩ a _ _ d b _ _ c M;have R:=(B.asc a d).2 _ (cR c);obtain⟨e,n⟩:∃e:X,A[a][b]=(e:Z):=⟨A[a][b].toNat,aa⟩;have o:jP A a e:=⟨d,n▸cR c⟩;have am:=o.ne B;rw[n,fJ];exact E e a (ale B _ _ o) aa
     intro d;refine⟨f,j,q,λe a o ad=>?_⟩;have S:=ale B _ _ o;obtain⟨b,c,s⟩:=hu.1 S.2;grind
    rw[show(if hq A l then(0:Z) else 211)=if(∀a,0<=a->a<A.length->∀d:a<A.length,∀b,0<=b->b<A[a].length->∀c:b<A[a].length,A[a][b]<=(a:Z)->(a:Z)∈gO l (hf (bd l) A[a][b].toNat l.length)) then 0 else 211 from by grind];refine ai (s4 (τ:=aif×bt) A.length (λa=>∀d:a<A.length,∀b,0<=b->b<A[a].length->∀c:b<A[a].length,A[a][b]<=(a:Z)->(a:Z)∈gO l (hf (bd l) A[a][b].toNat l.length)) (aB A.length (λi=>hf (bd l) i l.length),()) (.inl ()) (.inr (211,())) 0 bn (da _) ?_ ?_) ?_
    ·intro a _ k _;have J:=gN (ba k);have an:=B.rows _ (cR k);simp(disch:=omega) only[cO,au,J,aD];refine ai (s4 (τ:=aif×bt) A[a].length (λb=>∀c:b<A[a].length,A[a][b]<=(a:Z)->(a:Z)∈gO l (hf (bd l) A[a][b].toNat l.length)) (aB A.length (λi=>hf (bd l) i l.length),()) (.inl (aB A.length (λi=>hf (bd l) i l.length),())) (.inr (.inr (.inr (211,())))) 0 bn (da _) ?_ ?_) ?_
     ·intro b _ c _;have K:=gN (ba c);have R:=(B.asc a k).2 _ (cR c);obtain⟨e,n⟩:∃e:X,A[a][b]=(e:Z):=⟨A[a][b].toNat,aa⟩;simp(disch:=omega) only[au,K,aD,n,c,alg,fJ];by_cases r:(e:Z)>(a:Z)
      ·have:(e:Z)<=(a:Z)->(a:Z)∈gO l (hf (bd l) e l.length):=λd=>aa;rw[au r,au this];grind [iN]
      obtain⟨h,g,P,Q⟩:=wG f (aa:e<A.length);have L:hf (bd l) e l.length=(h:Z):=wH (m:=l.length) (λb c=>⟨c,f.1 b c⟩) g P Q l.length g (bc _);have y:ao l (h:Z)=Y l[h]:=gN (ba g);have G:l[h].2.2.1.Pairwise (· < ·):=(by have:=(f.1 h g).at g;exact(j h g).asc aa aa);obtain⟨U,H⟩:=KF (v:=(a:Z)) (F _ (cR g)) G;rw[az r];simp(disch:=omega) only[rr,aD,L,y,H,tq g];have M:(e:Z)<=(a:Z):=aa;by_cases N:(a:Z)∈l[h].2.2.1
      ·simp(disch:=omega) only[N,aiK,gQ,bP,aD,amb,cj,iN]
      grind
     ·grind
     have s:(∀d:a<A.length,∀b,0<=b->b<A[a].length->∀c:b<A[a].length,A[a][b]<=(a:Z)->(a:Z)∈gO l (hf (bd l) A[a][b].toNat l.length))↔(∀b,0<=b->b<A[a].length->∀c:b<A[a].length,A[a][b]<=(a:Z)->(a:Z)∈gO l (hf (bd l) A[a][b].toNat l.length)):=⟨λp=>p k,λp _=>p⟩;by_cases x:∀b,0<=b->b<A[a].length->∀c:b<A[a].length,A[a][b]<=(a:Z)->(a:Z)∈gO l (hf (bd l) A[a][b].toNat l.length)
     ·simp(disch:=omega) only[au x,au (s.2 x),iN]
     grind
    ·grind
    grind
   have:¬hq A l:=λd=>q d.2.2.1;grind
  have:¬hq A l:=λd=>j d.2.1;grind
 have w:T=bq:=(by grind);have:¬hq A l:=λd=>f d.1;grind
end
theorem ac2 {n:X} {x:df} (l:0<=x.1) (m:x.1<x.2.1) (w:x.2.1<=(n:Z)):jy n x↔x.2.2.1.Pairwise (· < ·)/\∃(b:(x.2.1-x.1).toNat<=x.2.2.1.length),x.2.2.1[0]'(by omega)=x.1/\x.2.2.1[(x.2.1-x.1).toNat-1]'(by omega)=x.2.1-1/\x.2.2.1[x.2.2.1.length-1]'(by omega)<(n:Z):=by
 obtain⟨f,u⟩:∃f:X,x.2.1-x.1=(f:Z):=⟨(x.2.1-x.1).toNat,aa⟩;have v:(x.2.1-x.1).toNat=f:=aa;constructor
 ·intro b;refine⟨b.asc l m,b.1,?_,?_,?_⟩
  ·have:=(b.2 0 (da _) (by have:=b.1;omega) (by have:=b.1;omega)).1 aa;omega
  ·have:=(b.2 ((x.2.1-x.1).toNat-1) (da _) (by have:=b.1;omega) (by have:=b.1;omega)).1 aa;omega
  have D:=b.1;have t:=b.2 (x.2.2.1.length-1) (da _) aa aa;omega
 rintro⟨p,D,q,r,s⟩;have h:∀a e,(d:a<x.2.2.1.length)->(g:e<x.2.2.1.length)->a<e->x.2.2.1[a]<x.2.2.1[e]:=λa e d g o=>(h2.1 p) a e d g o;have i:∀c a,(d:a+c<x.2.2.1.length)->x.2.2.1[a]+(c:Z)<=x.2.2.1[a+c]:=by
  intro c
  induction c with
  |zero=>grind
  |succ c y=>
   grind
 refine⟨D,λa _ _ d=>⟨λj=>?_,λj=>⟨?_,?_,?_⟩⟩⟩
 ·have aw:=i a 0 aa;have A:=i ((x.2.1-x.1).toNat-1-a) a aa;grind
 ·have z:=h ((x.2.1-x.1).toNat-1) a aa d aa;omega
 ·rcases cQ a (x.2.2.1.length-1) with k|k
  ·grind
  grind
 exact h (a-1) a aa d aa
section
variable {A:ew} (B:fj A) (C:A.length<=200) {l:bm df} (D:l.length<4611686018427387904) (F:∀y∈l,y.2.2.1.length<4611686018427387904)
theorem Nk (f:lM h l) (D:l.length<4611686018427387904) (s:a<l.length) (q:bd l a<=b) (r:b<bd l (a+1)):zO (l,(b:Z),())=Y ((a:Z),()):=by
 unfold zO;rw[<-bQ];refine bD (P:=λj=>j=.inr ((a:Z),())) ?_ (by grind [bu]);refine ae.for (a+1) (λc _=>c<=a) (i0:=0) rfl (da _) (da _) ?_ ?_
 ·rintro c ⟨⟩ _ d _;have e:c<l.length:=aa;have i:=gN (ba e);obtain⟨k,n,o,p⟩:=(f.1 c e).at e;simp(disch:=omega) only[cO,au,i,aD,yY];rcases cQ c a with g|g
  ·have:=LH (m:=l.length) (λc d=>⟨d,f.1 c d⟩) (c+1) a aa aa;rw[au aa,aI aa];simp only[aD,bP];grind [bu,iN]
  obtain rfl:c=a:=aa;rw[au aa,aL aa];grind [bu]
 omega
include B C D F
theorem aco:w6 ((A,()),l,())=Y ((open Classical in if hq A l then 0 else 211),()):=by
 classical
 have O:=B.hc C;unfold w6;simp only[AY A O,qT.2 ⟨C,B⟩,aD,fO,aiK,gQ,bP];rw[<-bQ];refine bD (P:=λS=>match S with|.inl p=>(∀a,a<l.length->nU A.length l a)/\p.1=(bd l l.length:Z)|.inr p=>¬lM A.length l/\p=(211,())) ?_ ?_
 ·refine ae.count (λT=>T.2.1) l.length (λa T=>(∀e,e<a->e<l.length->nU A.length l e)/\T.1=(bd l a:Z)) (i0:=0) rfl ⟨λe c=>by omega,bn⟩ (da _) ?_ ?_
  ·rintro a ⟨V,d7,⟨⟩⟩ _ d q ⟨M,j⟩;simp only at q j;subst q j;have u:=gN (ba d);have fl:¬(l[a].1=(bd l a:Z)/\(bd l a:Z)<l[a].2.1/\l[a].2.1<=(A.length:Z))->¬lM A.length l:=λc O=>by
    obtain⟨em,r,H⟩:=O.1 a d;grind
   simp(disch:=omega) only[cO,au,u,aD];by_cases k:l[a].1=(bd l a:Z)
   ·simp only[aL k,gQ,show(bq==bq)=bp from rfl,bG,wJ];by_cases J:l[a].2.1<=(bd l a:Z)
    ·rw[au J];grind [bu]
    rw[az J];by_cases K:l[a].2.1>(A.length:Z)
    ·rw[au K];grind [bu]
    rw[az K];have dl:nU A.length l a:=⟨l[a],ba d,k,aa,aa⟩;obtain⟨r,H,cv,c1⟩:=dl.at d;grind [cl,bu,iN]
   simp only[aI k,ma,show(bp==bq)=bq from rfl,bP,aD];grind [bu]
  rintro⟨V,d7,⟨⟩⟩ q ⟨M,j⟩;simp only at q j;subst q j;simp(disch:=omega) only[cO,az];grind [bu]
 rintro(⟨V,⟨⟩⟩|p) c
 rotate_left
 ·obtain⟨r,rfl⟩:=c;exact bu.2 (by rw[az (λc=>r c.1)])
 obtain⟨M,j⟩:=c;simp only at j;subst j;simp only;by_cases N:bd l l.length=A.length
 rotate_left
 ·have:¬((bd l l.length:Z)=(A.length:Z)):=aa;simp only[aI this,ma,bG];exact bu.2 (by rw[az (λc=>N c.1.2)])
 have o:lM A.length l:=⟨M,N⟩;simp only[N,aiK,gQ,bP];refine bD (P:=λS=>match S with|.inl _=>(∀a,(c:a<l.length)->jy A.length l[a])/\(∀a,(c:a<l.length)->iZ l l[a])|.inr p=>¬((∀a,(c:a<l.length)->jy A.length l[a])/\(∀a,(c:a<l.length)->iZ l l[a]))/\p=(211,())) ?_ ?_
 ·refine ae.of_eq (s4 (τ:=bt) l.length (λa=>∀c:a<l.length,jy A.length l[a]/\iZ l l[a]) () (.inl ()) (.inr (211,())) 0 bn (da _) ?_ ?_) ?_
  ·intro a _ d _;have u:=gN (ba d);obtain⟨k,J,K,eq⟩:=(o.1 a d).at d;have d1:=F _ (cR d);have av:=ac2 (n:=A.length) (x:=l[a]) aa aa aa;have d4:(∀c:a<l.length,jy A.length l[a]/\iZ l l[a])↔(jy A.length l[a]/\iZ l l[a]):=⟨λc=>c d,λc _=>c⟩;simp(disch:=omega) only[cO,au,u,aD];simp only[d4];obtain⟨f,j⟩:∃f:X,l[a].2.1-l[a].1=(f:Z):=⟨(l[a].2.1-l[a].1).toNat,aa⟩;have an:(l[a].2.1-l[a].1).toNat=f:=aa;have d5:bK.wrap (l[a].2.1-1)=l[a].2.1-1:=ct aa aa;simp(disch:=omega) only[j,Bk,KE _ d1,aD,wJ,d5];by_cases a0:l[a].2.2.1.Pairwise (· < ·)
   rotate_left
   ·grind
   rw[aL a0];simp only[gQ,show(bq==bq)=bp from rfl,bG];by_cases a3:f<=l[a].2.2.1.length
   rotate_left
   ·grind
   rw[az aa];have bx:ao l[a].2.2.1 0=Y (l[a].2.2.1[0]'(by omega)):=gN (i:=0) (ba aa)
   have ce:ao l[a].2.2.1 (bK.wrap ((f:Z)-1))=Y (l[a].2.2.1[f-1]'(by omega)):=by grind [gN,bS,vN]
   have ci:ao l[a].2.2.1 (bK.wrap ((l[a].2.2.1.length:Z)-1))=Y (l[a].2.2.1[l[a].2.2.1.length-1]'(by omega)):=by grind [gN,bS,vN]
   simp only[an] at av;simp only[bx,ce,ci,aD];by_cases a4:l[a].2.2.1[0]'(by omega)=l[a].1
   rotate_left
   ·grind
   rw[aL a4];simp only[gQ,show(bq==bq)=bp from rfl,bG];by_cases bl:l[a].2.2.1[f-1]'(by omega)=l[a].2.1-1
   rotate_left
   ·grind
   rw[aL bl];simp only[gQ,show(bq==bq)=bp from rfl,bG];by_cases d8:l[a].2.2.1[l[a].2.2.1.length-1]'(by omega)>=(A.length:Z)
   ·grind
   have t:jy A.length l[a]:=av.2 ⟨a0,a3,a4,bl,aa⟩;rw[az d8];simp only[aD];by_cases r:l[a].2.2.1.length=f
   ·rw[az aa];simp only[aD];by_cases I:l[a].2.2.2.1=-1
    ·have s:iZ l l[a]:=.inl ⟨aa,I⟩;simp only[aL I,gQ,bP];rw[au ⟨t,s⟩];have:loop (σ:=eo) (ρ:=dA) (λU=>if U.1<(l[a].2.2.1.length:Z) then(ao l (-1)).bind λd9=>(ao l[a].2.2.1 U.1).bind λek=>(sA (d9.2.2.1,ek,())).bind λel=>bif !el.1 then Y (.inr (.inr (.inr (.inr (.inr (211,())))))) else Y (.inl (bK.wrap (U.1+1),())) else Y (.inr (.inl ()))) ((f:Z),())=Y (.inl ()):=by
      rw[xF];exact⟨1,by simp_all [az,jZ]⟩
     grind [iN]
    have s:¬iZ l l[a]:=λc=>by
     rcases c with c|⟨c,_⟩
     ·omega
     omega
    grind
   have H:f<l[a].2.2.1.length:=aa;have fz:=(t.2 f (da _) H H).2 aa;obtain⟨G,fT⟩:∃G:X,l[a].2.2.1[f]=(G:Z):=⟨(l[a].2.2.1[f]).toNat,aa⟩;have d6:G<A.length:=aa;have co:ao l[a].2.2.1 (f:Z)=Y (G:Z):=(by grind [gN,bS]);obtain⟨h,g,z,E⟩:=wG o d6;have am:hf (bd l) G l.length=(h:Z):=wH (m:=l.length) (λa d=>⟨d,o.1 a d⟩) g z E l.length g (bc _);have L:ao l (h:Z)=Y l[h]:=gN (ba g);rw[au aa];simp only[co,aD,Nk o D g z E];have R:=F _ (cR g);by_cases I:l[a].2.2.2.1=(h:Z)
   ·have ex:iZ l l[a]↔∀e,f<=e->e<l[a].2.2.1.length->l[a].2.2.1.getD e 0∈l[h].2.2.1:=by
     unfold iZ;rw[an];simp_all [fJ,tq,ba,r8,aiZ]
    simp only[aL I,gQ,bP];refine ai (y:=if iZ l l[a] then .inl () else .inr (.inr (.inr (211,())))) ?_ ?_
    ·refine ai (s4 (τ:=bt) l[a].2.2.1.length (λe=>l[a].2.2.1.getD e 0∈l[h].2.2.1) () (.inl ()) (.inr (.inr (.inr (.inr (211,()))))) f bn a3 ?_ ?_) ?_
     ·intro e cv c1 _;have cs:ao l[a].2.2.1 (e:Z)=Y (l[a].2.2.1.getD e 0):=by
       grind [bS,gN]
      rw[au aa,L,cs];simp only[aD,Bt _ _ R];by_cases w:l[a].2.2.1.getD e 0∈l[h].2.2.1
      ·simp(disch:=omega) only[w,aiK,gQ,bP,cj,iN]
      grind
     ·grind
     grind
    by_cases ap:iZ l l[a]
    ·rw[au ap,au ⟨t,ap⟩];grind [iN]
    grind
   have s:¬iZ l l[a]:=λc=>by
    rcases c with c|⟨c,aw,_⟩
    ·omega
    grind
   grind
  ·grind
  grind
 rintro(⟨⟩|p) c
 rotate_left
 ·obtain⟨r,rfl⟩:=c;exact bu.2 (by rw[az (λc=>r ⟨c.2.1,c.2.2.1⟩)])
 obtain⟨t,s⟩:=c;simp only;have fn:hq A l↔∀b,0<=b->b<A.length->∀a,0<=a->a<(A.getD b []).length->(b:Z)<(A.getD b []).getD a 0->(A.getD b []).getD a 0∈gO l (hf (bd l) b l.length):=by
  constructor
  ·rintro⟨_,_,_,c2⟩ b _ c a _ d Q;simp only[aiZ,ba c,r8] at d Q|-;simp only[ba d,r8] at Q|-;have fs:=(B.asc b c).2 _ (cR d);obtain⟨e,ad⟩:∃e:X,A[b][a]=(e:Z):=⟨A[b][a].toNat,aa⟩;rw[ad] at Q|-;exact c2 b e ⟨c,ad▸cR d⟩ aa
  intro c;refine⟨o,t,s,λb e d2 fp=>?_⟩;obtain⟨v,w⟩:=d2;obtain⟨a,d,q⟩:=hu.1 w;have:=c b (da _) v a (da _);grind
 refine ae.of_eq (y:=(if hq A l then(0:Z) else 211,())) ?_ bn;refine ai (s4 (τ:=bt) A.length (λb=>∀a,0<=a->a<(A.getD b []).length->(b:Z)<(A.getD b []).getD a 0->(A.getD b []).getD a 0∈gO l (hf (bd l) b l.length)) () (.inl ()) (.inr (211,())) 0 bn (da _) ?_ ?_) ?_
 ·intro b _ v _;have ds:=gN (ba v);have ft:=B.rows _ (cR v);have d0:A.getD b []=A[b]:=(by grind);simp(disch:=omega) only[cO,au,d0];obtain⟨h,g,z,E⟩:=wG o v;have am:hf (bd l) b l.length=(h:Z):=wH (m:=l.length) (λa d=>⟨d,o.1 a d⟩) g z E l.length g (bc _);have L:ao l (h:Z)=Y l[h]:=gN (ba g);have R:=F _ (cR g);refine ai (s4 (τ:=bt) A[b].length (λa=>(b:Z)<A[b].getD a 0->A[b].getD a 0∈gO l (hf (bd l) b l.length)) () (.inl ()) (.inr (.inr (.inr (211,())))) 0 bn (da _) ?_ ?_) ?_
  ·intro a _ d _;have u:ao A[b] (a:Z)=Y (A[b].getD a 0):=by
    grind [bS,gN]
   simp(disch:=omega) only[ds,aD,au,u,yY];by_cases k:A[b].getD a 0>(b:Z)
   ·have bs:(b:Z)<A[b].getD a 0:=k;rw[au k];simp only[Nk o D g z E,aD,L,Bt _ _ R,am,tq g,bs,alg];by_cases w:A[b].getD a 0∈l[h].2.2.1
    ·simp(disch:=omega) only[w,aiK,gQ,bP,aD,cj,iN]
    grind
   have:(b:Z)<A[b].getD a 0->A[b].getD a 0∈gO l (hf (bd l) b l.length):=λc=>absurd c k;rw[az k,au this];grind [iN]
  ·grind
  by_cases d3:∀a,0<=a->a<A[b].length->(b:Z)<A[b].getD a 0->A[b].getD a 0∈gO l (hf (bd l) b l.length)
  ·simp(disch:=omega) only[au d3,iN]
  grind
 ·grind
 grind
end
theorem R3 {A:ew} (c:∀l∈A,l.length<4611686018427387904) {l:bm df} (D:l.length<4611686018427387904) (F:∀b∈l,b.2.2.1.length<4611686018427387904):uN ((A,()),l,())=Y (xj A l,()):=by
 unfold xj;by_cases a:ix A=0
 ·obtain⟨C,B⟩:=qT.1 a;rw[az aa];grind [Vn]
 simp_all [au,FM,aD,fO,aI,ma,bG,uN]
theorem R4 {A:ew} (b:∀l∈A,l.length<4611686018427387904) {l:bm df} (D:l.length<4611686018427387904) (F:∀c∈l,c.2.2.1.length<4611686018427387904):w6 ((A,()),l,())=Y (xj A l,()):=by
 unfold xj;by_cases a:ix A=0
 ·obtain⟨C,B⟩:=qT.1 a;rw[az aa];grind [aco]
 rw[au a];unfold w6;simp only[AY A b,aD,fO,aI a,ma,bG]
end
section
def a5 (a:aie):aif:=a.map λ(b:X)=>(b:Z)
theorem oq (a b:aie):a5 (a++b)=a5 a++a5 b:=by simp[a5]
theorem fH (a:aie):(a5 a).length=a.length:=by simp[a5]
section
variable {n:X} {f:X->Z} (A:FY n f) (B:n<=200)
include A B
end
end
section
theorem xo {b:bm j} (d:a<b.length) (c:j):b.getD a c=b[a]:=by simp only[aiZ,ba d,r8]
section
variable {A:ew} (B:fj A) (C:A.length<=200)
include B C
end
end
section
theorem L8 {A:ew} (B:fj A) (c:d∈g2 A a):∃b:X,d=(b:Z)/\b<A.length/\a<=b:=by have e:=c;unfold g2 um at c;grind
section
variable {A:ew} (B:fj A) (C:A.length<=200)
include B C
section
variable {D:aif} {m:X} {s e:X->X} (F:RP A.length (PK A)) (G:KU A.length (PK A) D m s e)
include F G
end
def v2 (a:bm df) (c b:X):Prop:=b<a.length/\bd a b<=c/\c<bd a (b+1)
omit B C in
theorem v2.last {c:bm df} (f:lM h c) (d:v2 c b a):hf (bd c) b c.length=(a:Z):=
 wH (m:=c.length) (λg e=>⟨e,f.1 g e⟩) d.1 d.2.1 d.2.2 c.length d.1 (bc _)
end
end
def hq.parent {b:bm df} (r:hq l b) (g:a<b.length):(b[a].2.2.2.1=-1\/∃d:X,b[a].2.2.2.1=(d:Z)/\d<b.length)/\∀c,(e:c<b[a].2.2.1.length)->b[a].2.1<=b[a].2.2.1[c]->∃d:X,b[a].2.2.2.1=(d:Z)/\d<b.length/\b[a].2.2.1[c]∈gO b (d:Z):=by
 obtain⟨k,s,q,_⟩:=r;obtain⟨z,A,B,C⟩:=(k.1 a g).at g;have m:=s a g;rcases q a g with⟨i,f⟩|⟨i,f,p⟩
 ·refine⟨.inl f,λc e v=>?_⟩;have:=(m.2 c (da _) e e).1 aa;omega
 have y:=(m.2 _ (da _) i i).2 (bc _);obtain⟨h,o⟩:∃h:X,b[a].2.2.1[(b[a].2.1-b[a].1).toNat]=(h:Z):=⟨(b[a].2.2.1[(b[a].2.1-b[a].1).toNat]).toNat,aa⟩;rw[o] at y;obtain⟨d,n,w,x⟩:=wG k (aa:h<l.length);have u:=v2.last k (⟨n,w,x⟩:v2 b h d);rw[o,fJ,u] at f;refine⟨.inr ⟨d,f,n⟩,λc e v=>?_⟩;refine⟨d,f,n,?_⟩;have t:(b[a].2.1-b[a].1).toNat<=c:=by
  rcases cQ c (b[a].2.1-b[a].1).toNat with j|j
  ·have:=(m.2 c (da _) e e).1 j;omega
  exact j
 have:=p c t e;rw[f] at this;exact this
structure oL {α:Type} (lt:α->α->bA):Prop where
 Tn:∀a b,lt a b=bp->lt b a=bq
 trans:∀a b c,lt b a=bq->lt c b=bq->lt c a=bq
theorem oL.int:oL (λa b:Z=>br (a<b)):=⟨λa b d=>by grind,λa b c e f=>by grind⟩
def tH {b:Type} (g:b->b->bA) (c:X->b) (e f:X):Prop:=∀d a,d<a->a<=e->a≠f->g (c a) (c d)=bq
def oM {b:Type} (f:b->b->bA) (c:X->b) (e:X):Prop:=∀d a,d<a->a<e->f (c a) (c d)=bq
def swp {c:Type} (b:X->c) (a:X):X->c:=eC (eC b a (b (a-1))) (a-1) (b a)
def Ra (b:X->j) (c:X):swp b a c=if c=a-1 then b a else if c=a then b (a-1) else b c:=rfl
def tH.swp {k:Type} {h:k->k->bA} (m:oL h) {f:X->k} {j a:X} (g:tH h f j a) (q:0<a) (r:a<=j) (n:h (f a) (f (a-1))=bp):tH h (swp f a) j (a-1):=by
 intro e b p i o;rw[Ra,Ra,az o];by_cases c:b=a
 ·subst c;rw[au bn];by_cases d:e=b-1
  ·rw[au d];exact m.Tn _ _ n
  rw[az d,az aa];exact g e (b-1) aa aa aa
 rw[az c];by_cases d:e=a-1
 ·rw[au d];exact g a b aa i c
 rw[az d];by_cases l:e=a
 ·rw[au l];exact g (a-1) b aa i c
 rw[az l];exact g e b p i c
theorem tH.done {e:j->j->bA} (k:oL e) {c:X->j} (i:tH e c b a) (n:a<=b) (d:a=0\/e (c a) (c (a-1))=bq):oM e c (b+1):=by
 intro g f l o;by_cases h:f=a
 ·subst h;rcases d with d|d
  ·omega
  by_cases m:g=f-1
  ·grind
  exact k.trans _ _ _ (i g (f-1) aa aa aa) d
 exact i g f l aa h
theorem Rb {c:X->j} (f:0<a) (g:a<b):(aB b (swp c a)).Perm (aB b c):=by have d:a<(aB b c).length:=(by grind [cX]);have e:a-1<(aB b c).length:=aa;have:=List.set_set_perm d e;rw[lz,lz,hB,hB] at this;exact this
theorem DS [Inhabited j] (a:bm j):a=aB a.length (λb=>a[b]?.getD default):=Vh a _ (λb c=>by grind)
theorem Wo (b:aif) (C:b.length<=1000):ae (C1 (b,0,(b.length:Z),())) (λd=>∃a,d.1=aB b.length a/\oM (λf g=>br (f<g)) a b.length/\d.1.Perm b):=by
 unfold C1;simp only[];generalize t:b.length=c at*;have u:bK.wrap (0+1)=((1:X):Z):=(by grind [ct]);rw[u];rcases pB c with z|w
 ·subst z;refine bD (P:=λd=>d.1=b) ?_ ?_
  ·refine aiA (λj=>j=(((1:X):Z),b,())) (λ_=>0) rfl ?_;rintro _ rfl;simp only[cO];rw[az aa];grind [bu]
  rintro⟨d,_⟩ rfl;refine bu.2 ⟨λ_=>0,?_,λm n o p=>by omega,aks _⟩;show d=[];grind
 refine bD (P:=λd=>∃a,d.1=aB c a/\oM (λf g=>br (f<g)) a c/\d.1.Perm b) ?_ (λd y=>bu.2 y);refine ae.for c (λh A=>∃a,A=(aB c a,())/\oM (λf g=>br (f<g)) a h/\(aB c a).Perm b) rfl ⟨λh=>b[h]?.getD default,?_,λm n o p=>by omega,?_⟩ w ?_ ?_
 ·rw[<-t,<-DS]
 ·rw[<-t,<-DS]
 ·rintro h _ o p ⟨a,rfl,q,i⟩;simp only[cO];rw[au aa];refine bD (P:=λd=>∃a,d=(aB c a,())/\oM (λf g=>br (f<g)) a (h+1)/\(aB c a).Perm b) ?_ ?_
  ·refine aiA (λj=>∃(e:X) (a:X->Z),j=((e:Z),aB c a,())/\e<=h/\tH (λf g=>br (f<g)) a h e/\(aB c a).Perm b) (λj=>j.1.toNat) ⟨h,a,bn,bc _,λm n x E D=>q m n x aa,i⟩ ?_;rintro _ ⟨e,a,rfl,l,k,i⟩;simp only[yY];by_cases r:0<e
   ·have B:e-1<c:=aa;have v:e<c:=aa;simp(disch:=omega) only[au,cX,vN,eU,gW,aD,KQ,cO];by_cases s:a e<a (e-1)
    ·rw[au s];simp(disch:=omega) only[aD,cX,vN,eU,gW,hB];refine bu.2 ⟨⟨e-1,swp a e,bn,aa,k.swp oL.int r l (by grind),(Rb r v).trans i⟩,?_⟩;omega
    rw[az s];exact bu.2 ⟨a,bn,k.done oL.int l (.inr (by grind)),i⟩
   rw[az aa];exact bu.2 ⟨a,bn,k.done oL.int l (.inl aa),i⟩
  grind [iN,bu]
 rintro _ ⟨a,rfl,q,i⟩;simp only[cO];rw[az aa];grind [bu]
theorem oM.pairwise {b:X->Z} (e:oM (λc d=>br (c<d)) b a):(aB a b).Pairwise (· <= ·):=by rw[h2];intro g h i j f;rw[lz,lz];have:=e g h f (by grind [cX]);grind
theorem KP (a:X) (c:a<=12):∃b,CK ((a:Z),())=Y (b,()):=by
 have:a=0\/a=1\/a=2\/a=3\/a=4\/a=5\/a=6\/a=7\/a=8\/a=9\/a=10\/a=11\/a=12:=aa;rcases this with rfl|rfl|rfl|rfl|rfl|rfl|rfl|rfl|rfl|rfl|rfl|rfl|rfl
 ·exact⟨0,by kernel_rfl⟩
 ·exact⟨1,by kernel_rfl⟩
 ·exact⟨2,by kernel_rfl⟩
 ·exact⟨2,by kernel_rfl⟩
 ·exact⟨3,by kernel_rfl⟩
 ·exact⟨3,by kernel_rfl⟩
 ·exact⟨3,by kernel_rfl⟩
 ·exact⟨3,by kernel_rfl⟩
 ·exact⟨4,by kernel_rfl⟩
 ·exact⟨4,by kernel_rfl⟩
 ·exact⟨4,by kernel_rfl⟩
 ·exact⟨4,by kernel_rfl⟩
 exact⟨4,by kernel_rfl⟩
theorem abj (a:aif) (c:Z) (h:a.length<=12):ae (C4 (a,0,(a.length:Z),c,())) (λb=>b.1.Pairwise (· <= ·)/\b.1.Perm a):=by obtain⟨b,i,g,f,e,d⟩:=Wo a aa;refine⟨b,?_,by rw[f];exact e.pairwise,d⟩;unfold C4;dsimp only;rw[Et];dsimp only;have j:bK.wrap ((a.length:Z)-0)=((a.length:X):Z):=(by rw[Int.sub_zero];grind [Bk]);grind
theorem Su (a:aif) (c:a.length<=12):ae (zq (a,())) (λb=>b.1.Pairwise (· <= ·)/\b.1.Perm a):=by grind [bD,abj,bu,KP,Kx,zq]
section
open Go
theorem T9 (h:c.Pairwise (· <= ·)):(ai6 c).length<c.length↔¬c.Nodup:=by
 have g:(ai6 c).length=((bI c.length).filter (alh c.toArray)).length:=(by simp[ai6,Lib.compactUpTo]);have e:(∀a,a<c.length->alh c.toArray a=bp)↔c.Nodup:=by
  have f:∀a,(b:a<c.length)->(alh c.toArray a=bp↔a=0\/c[a]≠c[a-1]):=λa b=>(by grind [alh]);constructor
  ·intro b;have d:c.Pairwise (· < ·):=by
    grind [aih,AK]
   exact d.imp (λb=>by omega)
  grind [ajC]
 grind [cl,ajj,List.length_filter_eq_length_iff,ajH,aiH]
def adW (a:aif) (e:a.length<=12):Ci (a,())=Y (br (¬a.Nodup),()):=by obtain⟨c,g,h,b⟩:=Su a e;have f:=b.length_eq;unfold Ci Bh;simp only[g,ja,aD];rw[show b2 a.length 1000000=bp from ank aa];simp only[bG];rw[show b2 c.1.length 1000000=bp from ank aa];simp only[bG,ja];have d:br ((ai6 c.1).length<a.length)=br (¬a.Nodup):=(by rw[cy,<-f,T9 h,b.nodup_iff]);rw[d]
def h5 (a:X) (b:X->X->bA):eu:=aB a λc=>aB a (b c)
theorem An (a:X) (b:X->X->bA):(h5 a b).length=a:=cX a _
def N5 {d:X->X->bA} (e:∀b c,b<a->c<a->s b c=d b c):h5 a s=h5 a d:=db λb f=>db λc g=>e b c f g
theorem KS (a:X) (e:a<=4294967296):y9 ((a:Z),())=Y (h5 a λ_ _=>bq,()):=by
 unfold y9;simp only[];rw[h6 e];simp only[aD];refine ai (y:=(h5 a λ_ _=>bq,())) (Am a (λd=>(aB a (λb=>if b<d then bJ a bq else[]),())) 0 bn ?_ (da _) ?_ ?_) rfl
 ·rw[jc];simp
 ·intro d _ f;simp(disch:=omega) only[cX,qH,cO,au,aD,eU,gW,hB,iN];congr 4;refine db λb c=>?_;simp only[eC];grind
 simp only[qH,cO];rw[az aa];congr 2;refine b4 (·,()) (db λb c=>?_);rw[au c,jc]
theorem KO {n:X} {B:X->X->bA} {i j:X} (k:i<n) (l:j<n):zc (h5 n B,(i:Z),(j:Z),())=Y (h5 n (λa b=>B a b||(br (i≠j)&&((br (a=i)&&br (b=j))||(br (a=j)&&br (b=i))))),()):=by
 unfold zc;simp only[fO];by_cases e:i=j
 ·simp_all
 rw[aI (aa:¬((i:Z)=(j:Z)))];unfold h5;simp(disch:=omega) only[ma,bG,cX,eU,aD,gW,ja,hB];rw[show eC (λg=>aB n (B g)) i (aB n (eC (B i) j bp)) j=aB n (B j) from hb _ _ (λd=>e d.symm)];simp(disch:=omega) only[cX,eU,aD,gW,ja,hB];congr 2;refine db λa h=>?_;simp only[eC];by_cases c:a=j
 ·rw[au c,c];grind [db,eC]
 rw[az c];by_cases f:a=i
 ·subst f;rw[au bn];grind [db,eC]
 simp_all
theorem Sc (i:b<=4294967296) (f:a<b):Cf (h5 b s,(a:Z),())=Y (a5 ((bI b).filter (s a)),()):=by
 unfold Cf;simp only[];rw[show ao (h5 b s) (a:Z)=Y (aB b (s a)) from rr f];simp only[aD];refine ai (y:=(a5 ((bI b).filter (s a)),())) (Am b (λc=>(a5 ((bI c).filter (s a)),())) 0 bn rfl (da _) ?_ ?_) rfl
 ·intro c _ g;have h:(a5 ((bI c).filter (s a))).length<=c:=(by grind [aiH,fH]);have e:a5 ((bI (c+1)).filter (s a))=if s a c=bp then a5 ((bI c).filter (s a))++[(c:Z)] else a5 ((bI c).filter (s a)):=by
   grind [aiI,oq,a5]
  simp(disch:=omega) only[cX,cO,au,rr,aD,iN];rw[e];by_cases d:s a c=bp
  ·rw[au d,d,dc (by grind)];rfl
  grind
 simp_all [cX,cO,az]
def jX (a:X) (b:X->X->bA):ew:=aB a λc=>a5 ((bI a).filter (b c))
theorem KN (e:a<=4294967296):zb (h5 a s,())=Y ((jX a s,()),()):=by
 unfold zb;simp only[An];rw[h6 e];simp only[aD];refine ai (y:=(([],()),(jX a s,()),())) (Am a (λd=>(([],()),(aB a (λb=>if b<d then a5 ((bI a).filter (s b)) else[]),()),())) 0 bn ?_ (da _) ?_ ?_) rfl
 ·rw[jc];simp
 ·intro d _ f;simp(disch:=omega) only[cO,au,Sc,aD,cX,eU,gW,ja,hB,iN];congr 6;refine db λb c=>?_;simp only[eC];grind
 simp only[cO];rw[az aa];have:(aB a λb=>if b<a then a5 ((bI a).filter (s b)) else[])=jX a s:=db λb c=>(by rw[au c]);grind
end
section
open Go
def gx (a:aif) (b:X):Prop:=a.length=b/\(∀c∈a,0<=c/\c<(b:Z))/\a.Nodup
open Classical in
theorem Sj (a:aif) (c:X) (s:c<=4294967296):C6 (a,(c:Z),())=Y (br (gx a c),()):=by
 unfold C6;simp only[fO];by_cases m:a.length=c
 ·rw[aL (aa:(((a.length:X):Z)=(c:Z)))];simp only[gQ,bP,h6 s,aD,jc];rw[<-bQ];refine bD (P:=λu=>match u with|.inl _=>gx a c|.inr v=>v=(bq,())/\¬gx a c) ?_ ?_
  ·refine ae.for c (λb w=>w=(aB c (λp=>br ((p:Z)∈a.take b)),())/\(∀e,(d:e<a.length)->e<b->0<=a[e]/\a[e]<(c:Z))/\(a.take b).Nodup) (i0:=0) rfl ⟨ac,λe _ d=>by omega,ac⟩ (da _) ?_ ?_
   ·rintro b _ _ x ⟨rfl,t,q⟩;have l:b<a.length:=aa;have k:ao a (b:Z)=Y a[b]:=gN (ba l);have o:a[b]∈a:=cR l;simp(disch:=omega) only[cO,au,k,aD,wJ];by_cases i:a[b]<0
    ·rw[au i];exact bu.2 ⟨bn,λd=>by have:=d.2.1 _ o;omega⟩
    rw[az i];by_cases j:a[b]>=(c:Z)
    ·rw[au j];exact bu.2 ⟨bn,λd=>by have:=d.2.1 _ o;omega⟩
    rw[az j];obtain⟨f,h⟩:∃f:X,a[b]=(f:Z):=⟨a[b].toNat,aa⟩;have B:f<c:=aa;rw[h];simp(disch:=omega) only[cX,eU,aD,gW,cO];by_cases g:(f:Z)∈a.take b
    ·rw[au g];refine bu.2 ⟨bn,λd=>?_⟩;obtain⟨D,r,n⟩:=hu.1 g;simp only[fQ] at r;simp only[List.getElem_take] at n;have:=(qF d.2.2).1 (n.trans h.symm);omega
    rw[az g];simp(disch:=omega) only[aD,k,h,cX,eU,gW,hB,iN];have A:a.take (b+1)=a.take b++[(f:Z)]:=(by grind [tx]);refine bu.2 ⟨bn,?_,λe y z=>?_,?_⟩
    ·show((_,()):_×bt)=_;refine b4 (·,()) (db λp _=>?_);simp only[eC];grind
    ·grind
    grind
   rintro _ ⟨rfl,t,q⟩;simp(disch:=omega) only[cO,az];refine bu.2 ⟨m,λE C=>?_,?_⟩
   ·grind [ai8]
   grind
  grind [bu,aL,aI]
 rw[aI (aa:¬(((a.length:X):Z)=(c:Z)))];simp only[ma,bG];rw[aI (λd=>m d.1)]
def mx (a:ew) (b:aif):Z:=open Classical in if ix a≠0 then ix a else if b.length≠a.length then 2 else if gx b a.length then 0 else 90
theorem JF (d:∀h∈l,h.length<4611686018427387904) (a:aif):q6 ((l,()),a,())=Y (if mx l a=0 then((jG (jY l a),()),0,()) else(([],()),mx l a,())):=by
 classical
 unfold q6 mx;simp only[AY l d,aD,fO];by_cases c:ix l=0
 ·obtain⟨g,e⟩:=qT.1 c;rw[aL c];simp only[gQ,bP,c,ne_eq,aj1,if_false];by_cases f:a.length=l.length
  ·rw[aL (aa:(((a.length:X):Z)=((l.length:X):Z)))];simp only[gQ,bP,f,aj1,if_false];rw[Sj a l.length aa];simp only[aD];by_cases b:gx a l.length
   ·rw[aL b];simp only[gQ,bP,au b,cj];rw[Sa e d g b.2.1 b.2.2 aa];rfl
   grind
  grind
 grind
theorem aeu (b:ew) (a:Z):Cj ((b,()),a,())=Y (br (0<=a/\a<(b.length:Z)),()):=by unfold Cj;grind
theorem aa9 (d:ew) (a:aif) (j:a.length<4611686018427387904):CW (a,(Y (d,()),()),())=Y (br (¬∀c∈a,0<=c/\c<(d.length:Z)),()):=by
 classical
 unfold CW G3;simp only[];rw[<-bQ];have i:(∀c∈a,0<=c/\c<(d.length:Z))↔∀b,b<a.length->∀e:b<a.length,0<=a[b]/\a[b]<(d.length:Z):=
  ⟨λe b _ f=>e _ (cR f),λe c k=>by grind [ai8]⟩
 refine bD (P:=λg=>br (g.1>=0)=br (¬∀c∈a,0<=c/\c<(d.length:Z))) ?_ (λg h=>bu.2 (by rw[h]));refine bD (Iw a.length (λb=>∀e:b<a.length,0<=a[b]/\a[b]<(d.length:Z)) ?_ ?_) ?_
 ·intro b f;simp(disch:=omega) only[cO,au,gN (ba f),aD,iN];unfold GQ;simp only[aD,aeu];grind
 ·grind
 grind [bu,aI,aL]
theorem Sk (i:∀n∈l,n.length<4611686018427387904) (a:aif) (k:l.length<=200->fj l->l.length<=12) (m:a.length<4611686018427387904):Ce ((l,()),a,())=Y (mx l a,()):=by
 classical
 unfold Ce mx;simp only[FM l i,aD,fO];by_cases e:ix l=0
 ·obtain⟨j,h⟩:=qT.1 e;have o:=k j h;rw[aL e];simp only[gQ,bP,e,ne_eq,aj1,if_false];by_cases f:a.length=l.length
  ·rw[aL (aa:(((a.length:X):Z)=((l.length:X):Z)))];simp only[gQ,bP,f,aj1,if_false];rw[aa9 l a m];simp only[aD];by_cases b:∀g∈a,0<=g/\g<(l.length:Z)
   ·rw[aI (aii b)];simp only[aiN,bG];rw[adW a aa];simp only[aD,cO];by_cases c:a.Nodup
    ·rw[az (aii c),au ⟨f,b,c⟩]
    rw[au c,az (λd=>c d.2.2)]
   rw[aL b,az (λd=>b d.2.1)];rfl
  grind
 grind
end
section
open Go
def p7 (c:ew) (a:aif) (b d:X):bA:=br (a.getD d 0∈c.getD (a.getD b 0).toNat [])
theorem Nr (k:fj l) (i:∀d∈c,0<=d/\d<(l.length:Z)) (m:a<c.length) (n:b<c.length):p7 l c a b=p7 l c b a:=by have o:=i _ (cR m);have p:=i _ (cR n);have u:∀d e:Z,0<=d/\d<(l.length:Z)->0<=e/\e<(l.length:Z)->e∈l.getD d.toNat []->d∈l.getD e.toNat []:=λd e s t h=>(by obtain⟨f,rfl⟩:∃f:X,d=(f:Z):=⟨d.toNat,aa⟩;obtain⟨g,rfl⟩:∃g:X,e=(g:Z):=⟨e.toNat,aa⟩;simp only[fJ] at h|-;have j:f<l.length:=aa;have r:g<l.length:=aa;rw[xo j] at h;obtain⟨_,q⟩:=ale k f g ⟨j,h⟩;grind);unfold p7;grind
theorem VP (f:fj l) (g:∀e∈c,0<=e/\e<(l.length:Z)):jX c.length (λa b=>br (a≠b)&&p7 l c a b)=jG (jY l c):=by unfold jX jG;rw[xu];refine h7 λi d=>?_;have d:=iq.1 d;unfold a5 ms;refine b4 _ (pt λj h=>?_);grind [Bool.or_self,Nr,Gv,p7]
theorem Wi (s:fj l) (t:∀c∈l,c.length<4611686018427387904) (x:∀p∈c,0<=p/\p<(l.length:Z)) (G:c.length<=400):Ch ((l,()),c,())=Y ((jG (jY l c),()),()):=by
 generalize n:c.length=d at*
 let h:X->X->X->X->bA:=λa b e f=>br (e≠f)&&(p7 l c e f&&((br (e<a)&&br (f<a))||((br (e=a)&&br (f<b))||(br (f=a)&&br (e<b)))))
 unfold Ch;simp only[n];rw[KS d aa];simp only[aD];refine ai (y:=(([],()),h5 d (h d 0),())) (Am d (λa=>(([],()),h5 d (h a 0),())) 0 bn ?_ (da _) ?_ ?_) ?_
 ·grind
 ·intro a _ w;have m:a<c.length:=aa;have u:ao c (a:Z)=Y c[a]:=gN (ba m);have k:=x _ (cR m);obtain⟨g,o⟩:∃g:X,c[a]=(g:Z):=⟨c[a].toNat,aa⟩;have i:g<l.length:=aa;simp(disch:=omega) only[cO,au,u,aD,vh,n,p8,ja,o,lP];have z:(c.take a).length=a:=(by grind);refine ai (y:=(([],()),h5 d (h a a),())) (Am a (λb=>(([],()),h5 d (h a b),())) 0 bn rfl (da _) ?_ ?_) ?_
  ·intro b _ E;have F:b<c.length:=aa;have v:ao (c.take a) (b:Z)=Y c[b]:=gN (by grind);simp(disch:=omega) only[z,cO,au,v,aD,iN];rw[Ib l g c[b] i (t _ (cR i)) ((Gf l).1 s g i).1];simp only[aD,cO];have q:p7 l c a b=br (c[b]∈l[g]):=by
    grind [xo,aiT,p7]
   have r:p7 l c b a=br (c[b]∈l[g]):=(by grind [Nr]);by_cases j:c[b]∈l[g]
   ·rw[au j,KO w aa];simp only[aD];refine b4 (λA=>Y (Sum.inl (((b+1:X):Z),([],()),A,()))) (N5 λe f _ _=>?_);rw[aL j] at q r;simp only[h];rw[vV];simp only[je,bk,aiF];constructor
    ·rintro(⟨k,C,D⟩|⟨k,⟨rfl,rfl⟩|⟨rfl,rfl⟩⟩)
     ·grind
     ·grind
     grind
    grind
   grind
  ·grind
  simp(disch:=omega) only[iN];grind
 ·grind
 rw[KN aa];simp only[aD];have B:jX d (h d 0)=jX d (λe f=>br (e≠f)&&p7 l c e f):=(by refine db λg o=>b4 a5 (pt λI H=>?_);grind);grind [VP]
theorem Sp (c:∀j∈l,j.length<4611686018427387904) (a:aif) (g:l.length<=200->fj l->l.length<=12) (h:a.length<4611686018427387904):za ((l,()),a,())=Y (if mx l a=0 then((jG (jY l a),()),0,()) else(([],()),mx l a,())):=by
 classical
 unfold za;simp only[Sk c a g h,aD,fO];by_cases b:mx l a=0
 ·rw[aL b,au b];simp only[gQ,bP];have e:ix l=0:=by
   by_cases i:ix l=0
   ·exact i
   simp_all [au,mx,absurd]
  obtain⟨k,f⟩:=qT.1 e;have d:gx a l.length:=(by unfold mx at b;grind);rw[Wi f c d.2.1 (by have:=d.1;omega)];rfl
 grind
end
def jI (E:bm cU) (b c:X):bA:=E.any λa=>br (a.1≠a.2.1)&&((br ((b:Z)=a.1)&&br ((c:Z)=a.2.1))||(br ((b:Z)=a.2.1)&&br ((c:Z)=a.1)))
def lI (E:bm cU) (b c:X):bA:=E.any λa=>br ((b:Z)=a.1)&&br ((c:Z)=a.2.1)
theorem Gk {b:j->bA} {E:bm j} (c:a<E.length):(E.take (a+1)).any b=((E.take a).any b||b E[a]):=by grind [cr,bS]
theorem Xh (a:X) (b:X->X->bA) (e:∀c d,b c d=bq):(bJ a (bJ a bq))=h5 a b:=by grind [db,jc,h5]
theorem Tt (c:b<a) (d:h<a):hy (h5 a s) b h=s b h:=by grind [jn,aB,hy,h5]
theorem M0 (d:X) (b:X->X->bA):jG (h5 d b)=jX d λa c=>a !=c&&(b a c||b c a):=by unfold jG;rw[An];refine db λa e=>?_;grind [Tt,List.filter_congr,ms,a5]
theorem Nx {E:bm cU} (a b:X):(a !=b&&(lI E a b||lI E b a))=jI E a b:=by
 induction E with
 |nil=>simp[lI,jI]
 |cons h E g=>
  unfold lI jI at*;simp only[List.any_cons];rw[<-g,vV];simp only[bk,je,bne_iff_ne,aiF];constructor
  ·rintro⟨f,(⟨d,e⟩|c)|(⟨d,e⟩|c)⟩
   ·omega
   ·grind
   ·omega
   grind
  rintro(⟨f,⟨d,e⟩|⟨d,e⟩⟩|⟨f,c|c⟩)
  ·omega
  ·omega
  ·grind
  grind
theorem R6 (h:hJ a a f c g) (p:gz a a f c g=0):y8 (((a:Z),(a:Z),f,c,g,()),())=Y ((jX a (jI (c6 f c g a)),()),0,()):=by
 have m:=(jE.1 p).1;have u:=re m;have y:(c6 f c g a).length<=10000:=(by rw[zX m a (cd _)];have:=m.p9 a (cd _);have:=h.hi;omega);unfold y8;refine ai h.check ?_;dsimp only;rw[p,fO,aL bn,fO,aL bn];have x:=h.hc;refine ai (KS a aa) (ai (RX h p) ?_);dsimp only;generalize c6 f c g a=E at*;refine bQ.1 ?_;refine bD (P:=λv=>v=(([],()),h5 a (jI E),())) ?_ ?_
 ·refine bL E.length (λb w=>w=((b:Z),([],()),h5 a (jI (E.take b)),E,())) rfl ?_ ?_
  ·rintro b _ o rfl;dsimp only;rw[aY (aL (show(b:Z)<al E by grind)),lF o,bi aa];have t:=u E[b] (b7 o);obtain⟨d,q⟩:=cB t.1;obtain⟨e,r⟩:=cB t.2.2.1;have s:=KO (n:=a) (B:=jI (E.take b)) (i:=d) (j:=e) aa aa;rw[<-q,<-r] at s;refine bz s (bu.2 ?_);dsimp only;have:h5 a (λk l=>jI (E.take b) k l||(br (d≠e)&&((br (k=d)&&br (l=e))||(br (k=e)&&br (l=d)))))=h5 a (jI (E.take (b+1))):=by
    refine N5 λz A _ _=>?_;unfold jI;rw[Gk o,q,r];grind
   grind
  rintro _ rfl;dsimp only;rw[a1 (aI (show¬((E.length:Z)<al E) by grind)),ch (cd _)];grind [bu]
 grind [bz,KN,bu]
theorem P3 (h:hJ a a f c g) (l:gz a a f c g=0):sH (((a:Z),(a:Z),f,c,g,()),())=Y ((jX a (jI (c6 f c g a)),()),0,()):=by
 have j:=(jE.1 l).1;have q:=re j;have y:(c6 f c g a).length<=10000:=(by rw[zX j a (cd _)];have:=j.p9 a (cd _);have:=h.hi;omega);unfold sH;refine ai h.vu ?_;dsimp only;rw[l,fO,aL bn,fO,aL bn];have x:=h.hc;refine ai (Mx a aa) (ai (P2 h l) ?_);dsimp only;generalize c6 f c g a=E at*;refine bQ.1 ?_;refine bD (P:=λv=>v=(([],()),h5 a (lI E),())) ?_ ?_
 ·refine bL E.length (λd w=>w=((d:Z),([],()),h5 a (lI (E.take d)),())) ?_ ?_ ?_
  ·rw[Xh a (lI (E.take 0)) λb i=>rfl];rfl
  ·rintro d _ k rfl;dsimp only;rw[aY (aL (show(d:Z)<al E by grind)),bi aa];have p:=q E[d] (b7 k);obtain⟨e,r⟩:=cB p.1;obtain⟨m,s⟩:=cB p.2.2.1;have o:e<a:=aa;have t:m<a:=aa;refine bz (e1 k) ?_;rw[r];refine bz (eU (by grind [An])) (bz (e1 k) ?_);rw[s];unfold h5;rw[gW o,bM];refine bz (eU (by grind [cX])) ?_;rw[gW o,gW t,hB,ajZ,bM,hB];refine bu.2 ?_;have:aB a (eC (λb=>aB a (lI (E.take d) b)) e (aB a (eC (lI (E.take d) e) m bp)))=aB a λb=>aB a (lI (E.take (d+1)) b):=by
    refine db λb z=>?_;by_cases n:b=e
    ·subst n;grind [hb,aI,gH,Gk,db,lI]
    rw[hb _ _ n];grind [Gk,aI,db,lI]
   grind
  rintro _ rfl;dsimp only;rw[a1 (aI (show¬((E.length:Z)<al E) by grind)),ch (cd _)];grind [bu]
 rintro _ rfl;dsimp only;refine bz (KL _ (λA u=>?_) (by grind [An])) (bu.2 ?_)
 ·rw[An];unfold h5 aB at u;grind
 dsimp only;rw[M0];have:(λb i=>b !=i&&(lI E b i||lI E i b))=jI E:=(by grind [Nx]);grind
section
open Go
def nK (b:aif) (a:X):X:=(b.getD a 0).toNat
theorem gx.get {n:X} (b:gx c n) (d:a<n):ao c (a:Z)=Y ((nK c a:X):Z)/\nK c a<n:=by have e:a<c.length:=(by rw[b.1];exact d);have f:=b.2.1 _ (cR e);grind [gN,bS,xo,nK]
theorem gx.inj (d:gx c b) {j:X} (h:j<b) (i:a<b) (e:nK c j=nK c a):j=a:=by have f:j<c.length:=(by rw[d.1];exact h);have g:a<c.length:=(by rw[d.1];exact i);have k:=d.2.1 _ (cR f);have l:=d.2.1 _ (cR g);unfold nK at e;rw[xo f,xo g] at e;exact(qF d.2.2).1 aa
end
section
open Go
theorem XZ:∀{n:X} {a:aie},a.Nodup->(∀d∈a,d<n)->a.length<=n:=by
 intro n
 induction n with
 |zero=>intro a _ b;cases a with
  |nil=>grind
  |cons e a=>grind [ama]
 |succ n g=>
  intro a c b;have f:(a.erase n).Nodup:=c.erase n;grind
section
variable {A:ew} (B:fj A)
include B
end
end
section
open Go
def DH (A:ew) (a:Z):X:=(A.getD a.toNat []).length
section
variable {A:ew} (B:fj A) (C:A.length<=200)
include B C
end
end
section
open Go
def Eh (k:Z->Z->aid) (l:aif) (f j:Z):bv eh:=
 (loop (σ:=eb) (ρ:=eh) (λ(d,g,_)=>
  bif br (d<j) then
 (loop (σ:=eb) (ρ:=eh) (λ(a,c,_)=>
 bB (α:=eh⊕dJ) (bif br (a>f)==bp then(bj c.length a).bind λv=>
 (a9 c v λo=>Y o).bind λz=>
 (bj c.length (bK.wrap (a-(1:Z)))).bind λs=>
 (a9 c s λp=>Y p).bind λA=>
 (k z A).bind λ(y,_)=>
  bif br (y<(0:Z)) then
 Y (.inl (c,())) else
 Y (.inr (.inr (c,()))) else Y (.inr (.inr (c,())))) λw=>match w with
 |.inl (b,_)=>(
 (bj b.length (bK.wrap (a-(1:Z)))).bind λt=>
 (a9 b t λq=>Y q).bind λB=>
 (bj b.length a).bind λu=>
 (a9 b u λr=>Y r).bind λC=>
 (bj b.length a).bind λh=>
 (a9 b h λ_=>Y (b.set h B)).bind λe=>
 (bj e.length (bK.wrap (a-(1:Z)))).bind λi=>
 (a9 e i λ_=>Y (e.set i C)).bind λD=>
 Y (.inl (bK.wrap (a-(1:Z)),D,())))
 |.inr x=>Y x) (d,g,())).bind λ(m,_)=>
 Y (.inl (bK.wrap (d+(1:Z)),m,())) else
 Y (.inr (g,()))) (bK.wrap (f+(1:Z)),l,())).bind λ(n,_)=>
 Y (n,())
def Wk {cmp:Z->Z->aid} {h:Z->Z->bA} (m:oL h) (c:aif) (A:∀r s,r∈c->s∈c->∃d,cmp r s=Y (d,())/\(d<0↔h r s=bp)) (I:c.length<=1000):ae (Eh cmp c 0 (c.length:Z)) (λd=>∃a,d.1=aB c.length a/\oM h a c.length/\d.1.Perm c):=by
 unfold Eh;generalize o:c.length=e at*;have z:bK.wrap (0+1)=((1:X):Z):=(by rw[ct]<;>omega);rw[z];rcases pB e with G|C
 ·subst G;refine bD (P:=λd=>d.1=c) ?_ ?_
  ·refine aiA (λj=>j=(((1:X):Z),c,())) (λ_=>0) rfl ?_;rintro _ rfl;simp only[cO];rw[az aa];exact bu.2 bn
  rintro⟨d,_⟩ rfl;refine bu.2 ⟨λ_=>0,?_,λp q t u=>by omega,aks _⟩;show d=[];exact qA o
 refine bD (P:=λd=>∃a,d.1=aB e a/\oM h a e/\d.1.Perm c) ?_ (λd E=>bu.2 E);refine ae.for e (λg H=>∃a,H=(aB e a,())/\oM h a g/\(aB e a).Perm c) rfl ⟨λg=>c[g]?.getD default,?_,λp q t u=>by omega,?_⟩ C ?_ ?_
 ·rw[<-o,<-DS]
 ·rw[<-o,<-DS]
 ·rintro g _ t u ⟨a,rfl,i,f⟩;simp only[cO];rw[au aa];refine bD (P:=λd=>∃a,d=(aB e a,())/\oM h a (g+1)/\(aB e a).Perm c) ?_ ?_
  ·refine aiA (λj=>∃(b:X) (a:X->Z),j=((b:Z),aB e a,())/\b<=g/\tH h a g b/\(aB e a).Perm c) (λj=>j.1.toNat) ⟨g,a,bn,bc _,λp q D K J=>i p q D aa,f⟩ ?_;rintro _ ⟨b,a,rfl,n,l,f⟩;simp only[yY];by_cases v:0<b
   ·have B:b-1<e:=aa;have w:b<e:=aa;obtain⟨d,F,x⟩:=A (a b) (a (b-1)) (f.mem_iff.1 (N7.2 ⟨b,w,bn⟩)) (f.mem_iff.1 (N7.2 ⟨b-1,B,bn⟩));simp(disch:=omega) only[au,cX,vN,eU,gW,aD,F,cO];by_cases k:h (a b) (a (b-1))=bp
    ·rw[au (x.2 k)];simp(disch:=omega) only[aD,cX,vN,eU,gW,hB];refine bu.2 ⟨⟨b-1,swp a b,bn,aa,l.swp m v n k,(Rb v w).trans f⟩,?_⟩;show((b-1:X):Z).toNat<((b:X):Z).toNat;omega
    rw[az (λy=>k (x.1 y))];exact bu.2 ⟨a,bn,l.done m n (.inr (by simpa using k)),f⟩
   rw[az aa];exact bu.2 ⟨a,bn,l.done m n (.inl aa),f⟩
  rintro _ ⟨a,rfl,i,f⟩;simp(disch:=omega) only[iN];exact bu.2 ⟨bn,a,bn,i,f⟩
 rintro _ ⟨a,rfl,i,f⟩;simp only[cO];rw[az aa];exact bu.2 ⟨a,bn,i,f⟩
def NQ (a:ew) (b c:Z):Prop:=DH a b<DH a c\/(DH a b=DH a c/\b<c)
instance(a:ew) (b c:Z):aiU (NQ a b c):=by unfold NQ;exact inferInstance
end
section
open Go
def hM (o:aif) (a:X):X:=o.idxOf (a:Z)
section
variable {o:aif} {n:X} (A:gx o n)
include A
theorem gx.mem (j:a<n):(a:Z)∈o:=by
 apply Classical.byContradiction;intro d;obtain⟨g,h,i⟩:=A;have e:o=a5 (o.map aiL):=by
  unfold a5;rw[oI]
  conv=>lhs;rw[<-List.map_id o]
  grind [aiy]
 have b:(o.map aiL).Nodup:=(by grind [aih,b7]);have c:a∉o.map aiL:=λf=>d (by grind);have:=XZ (n:=n) (kk.2 ⟨c,b⟩) (λl k=>by
  grind)
 grind
theorem gx.pos (d:a<n):hM o a<n/\nK o (hM o a)=a:=by have b:=A.mem d;have c:hM o a<o.length:=List.idxOf_lt_length_iff.2 b;refine⟨by rw[<-A.1];exact c,?_⟩;grind [xo,hM,nK]
theorem gx.PS (b:a<n):hM o (nK o a)=a:=by have c:=(A.get b).2;obtain⟨d,e⟩:=A.pos c;exact A.inj d b e
end
section
variable {B:ew} (C:fj B) {o:aif} (A:gx o B.length)
include C A
end
end
def mH (E:bm cU) (b c:Z):Z:=match E.find? λa=>br (a.1=b)&&br (a.2.1=c) with
 |some a=>a.2.2.1
 |none=>0
theorem UQ {E:bm cU} (i:E.Pairwise hh) {a:cU} (c:u∈E) (d:a∈E) (g:u.1=a.1) (h:u.2.1=a.2.1):u=a:=by
 obtain⟨e,j,rfl⟩:=hu.1 c;obtain⟨f,k,rfl⟩:=hu.1 d;rcases r6 e f with b|b|b
 ·grind [aih,hh]
 ·grind
 grind [aih,hh]
theorem Ry {E:bm cU} (e:E.Pairwise hh) (f:u∈E):mH E u.1 u.2.1=u.2.2.1:=by
 unfold mH;cases b:E.find? λa=>br (a.1=u.1)&&br (a.2.1=u.2.1) with
 |none=>
  grind
 |some a=>
  have c:=List.find?_some b;have d:=FW b;simp only[bk,aiF] at c;grind [UQ]
theorem aem {E:bm cU} (b:∀a∈E,¬(a.1=d/\a.2.1=k)):mH E d k=0:=by grind [List.find?_eq_none,mH]
theorem Rz {E:bm cU} (d:(E++[u]).Pairwise hh) (b c:Z):mH (E++[u]) b c=if u.1=b/\u.2.1=c then u.2.2.1 else mH E b c:=by
 by_cases a:u.1=b/\u.2.1=c
 ·rw[au a,<-a.1,<-a.2,Ry d ac]
 rw[az a];unfold mH;grind
theorem aek {E:bm cU} (f:∀d∈E,eP d.2.2.1) (b c:Z):eP (mH E b c):=by
 unfold mH;cases e:E.find? λa=>br (a.1=b)&&br (a.2.1=c) with
 |none=>exact⟨ab,ab⟩
 |some a=>grind
theorem ael {E:bm cU} (d:∀c∈E,cE c.2.2.1≠2047) (a b:Z):cE (mH E a b)≠2047:=by grind [anl,decide,cE,mH]
theorem N6 (i:gq h b c f g) (k:a<b):u∈c6 c f g b/\u.2.1=(a:Z)↔∃d:X,c.getD a 0<=(d:Z)/\(d:Z)<c.getD (a+1) 0/\u=(f.getD d 0,(a:Z),g.getD d 0,()):=by
 have r:=i.pos a aa;have s:=i.pos (a+1) aa;constructor
 ·rintro⟨e,l⟩;obtain⟨j,o,e⟩:=Aq.1 e;obtain⟨t,q,rfl⟩:=ve.1 e;have p:j=a:=(by grind);grind
 rintro⟨d,m,n,rfl⟩;refine⟨Aq.2 ⟨a,k,ve.2 ⟨d-(c.getD a 0).toNat,aa,?_⟩⟩,bn⟩;grind
theorem P1 (m:hJ h b f c g) (w:gz h b f c g=0) (k:Z) (p:a<b):sF (((h:Z),(b:Z),f,c,g,()),k,(a:Z),())=Y (mH (c6 f c g b) k (a:Z),()):=by
 have i:=(jE.1 w).1;have A:=i.pos a aa;have B:=i.pos (a+1) aa;have I:=i.p9 (a+1) aa;have J:=i.val;have G:=i.mono a p;have F:=i.len;have E:=m.hi;have u:=rf i b (bc _);have D:=m.hc;unfold sF;refine ai (y:=.inl ()) ?_ ?_
 ·refine ai m.vu ?_;grind
 dsimp only;rw[gY (aa:a<f.length),bM];refine bQ.1 ?_;obtain⟨e,x⟩:=cB A;obtain⟨j,v⟩:=cB B;have t:ao f (aP (a:Z))=Y (j:Z):=(by rw[bi aa,gY aa,v]);rw[t,x];refine bD (P:=λn=>(n=.inl ()/\∀d:X,e<=d->d<j->c.getD d 0≠k)\/∃d:X,e<=d/\d<j/\c.getD d 0=k/\n=.inr (g.getD d 0,())) ?_ ?_
 ·refine bL (j-e) (λl C=>C=(((e+l:X):Z),())/\∀d:X,e<=d->d<e+l->c.getD d 0≠k) ⟨bn,λd r o=>absurd o aa⟩ ?_ ?_
  ·rintro l _ H ⟨rfl,q⟩;dsimp only;rw[bM,aY (aL (aa:((e+l:X):Z)<(j:Z)))];refine bz (gY aa) ?_;by_cases s:c.getD (e+l) 0=k
   ·rw[aY (by grind)];refine bz (gY aa) (bu.2 ?_);grind
   rw[a1 (by grind),bi aa];grind [cl,bu]
  rintro _ ⟨rfl,q⟩;dsimp only;rw[bM,a1 (aI (aa:¬(((e+(j-e):X):Z)<(j:Z))))];grind [bu]
 rintro n (⟨rfl,q⟩|⟨d,r,o,s,rfl⟩)
 ·grind [N6,aem,bu]
 refine bu.2 ?_;have z:=((N6 i p).2 ⟨d,aa,aa,bn⟩).1;have:=Ry u z;grind
theorem abX (y:a<=10000) (z:c.length<=1000000):Dy (c,(a:Z),())=Y (open Classical in decide (gx c a),()):=by
 classical
 unfold Dy;dsimp only;by_cases n:c.length=a
 ·rw[a1 (by grind)];refine ai (h6 aa) ?_;refine bQ.1 ?_;refine bD (P:=λp=>(p=.inl ()/\gx c a)\/(p=.inr (bq,())/\¬gx c a)) ?_ ?_
  ·refine bL a (λb t=>t=((b:Z),aB a (λd=>br ((d:Z)∈c.take b)),())/\(∀e∈c.take b,0<=e/\e<(a:Z))/\(c.take b).Nodup) ?_ ?_ ?_
   ·grind [jc]
   ·rintro b _ x ⟨rfl,h,i⟩;dsimp only;rw[aY (aL (aa:(b:Z)<(a:Z))),e1 (aa:b<c.length)];have o:c[b]'(by omega)∈c:=b7 _
    have r:c.take (b+1)=c.take b++[c[b]'(by omega)]:=by simp_all
    have j:∀e,e∈c.take (b+1)↔e∈c.take b\/e=c[b]'(by omega):=λe=>by rw[r,h9,gp]
    have q:(c.take (b+1)).Sublist c:=alb _ _;generalize B:c[b]'(by omega)=d at*
    simp only[aD];by_cases v:d<0
    ·rw[a1 (show(br (d<0)==bq)=bq by grind)];refine bu.2 (.inr ⟨bn,λg=>?_⟩);have:=g.2.1 d o;omega
    rw[aY (show(br (d<0)==bq)=bp by grind)];by_cases w:d>=(a:Z)
    ·rw[a1 (show(br (d>=(a:Z))==bq)=bq by grind)];refine bu.2 (.inr ⟨bn,λg=>?_⟩);have:=g.2.1 d o;omega
    rw[aY (show(br (d>=(a:Z))==bq)=bp by grind)];obtain⟨k,rfl⟩:=gh (aa:0<=d);rw[lF (by grind [cX]),lz];by_cases l:(k:Z)∈c.take b
    ·rw[aY (aL l)];refine bu.2 (.inr ⟨bn,λg=>?_⟩);have:=anm q g.2.2;grind
    rw[a1 (aI l)];simp only[aD];rw[lJ (by grind [cX]),hB];refine bu.2 ⟨?_,?_,?_⟩
    ·rw[bi aa];have:aB a (eC (λd=>br ((d:Z)∈c.take b)) k bp)=aB a (λd=>br ((d:Z)∈c.take (b+1))):=by
      refine db λu A=>?_;by_cases m:u=k
      ·grind [gH,aL]
      rw[hb _ _ m];refine cy.2 ⟨λf=>(j _).2 (.inl f),λf=>((j _).1 f).resolve_right λf=>m aa⟩
     grind
    ·intro e s;rcases(j e).1 s with f|f
     ·grind
     omega
    grind
   rintro _ ⟨rfl,h,i⟩;dsimp only;rw[a1 (aI (aa:¬((a:Z)<(a:Z))))];rw[ch aa] at h i;exact bu.2 (.inl ⟨bn,n,h,i⟩)
  grind [bu,aL,aI]
 rw[aY (by grind),aI (λf=>n f.1)]
theorem P5 (d:hJ a b f c g) (i:v.length<=1000000):Dz (((a:Z),(b:Z),f,c,g,()),v,())=Y (open Classical in if gz a b f c g≠0 then gz a b f c g else if a≠b then 5 else if gx v a then 0 else 90,()):=by
 classical
 unfold Dz;refine ai d.vu ?_;dsimp only;have j:=d.hr;by_cases e:gz a b f c g=0
 ·rw[e,fO,aL bn,az (aii bn)];by_cases h:a=b
  ·subst h;rw[fO,aL bn,az (aii bn)];refine ai (abX aa i) ?_;grind
  grind
 grind
theorem abA (e:a<c.length) (g:c[a]=(b:Z)) (f:(b:Z)∉c.take a):hM c b=a:=by unfold hM;have d:c=c.take a++(c[a]::c.drop (a+1)):=(by rw[List.getElem_cons_drop,kl]);grind
theorem PP (B:a<=10000) (C:c.length<=1000000):DG (c,(a:Z),())=Y (open Classical in if gx c a then(aB a (λb=>(hM c b:Z)),bp,()) else([],bq,())):=by
 classical
 unfold DG;dsimp only;by_cases p:c.length=a
 ·rw[a1 (by grind)];refine ai (h6 aa) (ai (h6 aa) ?_);refine bQ.1 ?_;refine bD (P:=λo=>(o=.inl (aB a (λb=>(hM c b:Z)),())/\gx c a)\/(o=.inr ([],bq,())/\¬gx c a)) ?_ ?_
  ·refine bL a (λd x=>x=((d:Z),aB a (λb=>if(b:Z)∈c.take d then(hM c b:Z) else 0),aB a (λb=>br ((b:Z)∈c.take d)),())/\(∀g∈c.take d,0<=g/\g<(a:Z))/\(c.take d).Nodup) ?_ ?_ ?_
   ·grind [jc]
   ·rintro d _ A ⟨rfl,m,n⟩;dsimp only;rw[aY (aL (show(d:Z)<al c by grind)),e1 (aa:d<c.length)];have q:c[d]'(by omega)∈c:=b7 _
    have u:c.take (d+1)=c.take d++[c[d]'(by omega)]:=by simp_all
    have j:∀g,g∈c.take (d+1)↔g∈c.take d\/g=c[d]'(by omega):=λg=>by rw[u,h9,gp]
    have t:(c.take (d+1)).Sublist c:=alb _ _;have s:∀f:X,c[d]'(by omega)=(f:Z)->(f:Z)∉c.take d->hM c f=d:=λf=>abA aa
    generalize r:c[d]'(by omega)=b at*
    simp only[aD];by_cases y:b<0
    ·rw[a1 (show(br (b<0)==bq)=bq by grind)];refine bu.2 (.inr ⟨bn,λh=>?_⟩);have:=h.2.1 b q;omega
    rw[aY (show(br (b<0)==bq)=bp by grind)];by_cases z:b>=(a:Z)
    ·rw[a1 (show(br (b>=(a:Z))==bq)=bq by grind)];refine bu.2 (.inr ⟨bn,λh=>?_⟩);have:=h.2.1 b q;omega
    rw[aY (show(br (b>=(a:Z))==bq)=bp by grind)];obtain⟨f,rfl⟩:=gh (aa:0<=b);rw[lF (by grind [cX]),lz];by_cases l:(f:Z)∈c.take d
    ·simp only[aD];rw[aY (aL l)];refine bu.2 (.inr ⟨bn,λh=>?_⟩);have:=anm t h.2.2;grind
    simp only[aD];rw[a1 (aI l)];simp only[aD];rw[lJ (by grind [cX]),hB,lJ (by grind [cX]),hB];refine bu.2 ⟨?_,?_,?_⟩
    ·rw[bi aa];have:aB a (eC (λb=>br ((b:Z)∈c.take d)) f bp)=aB a (λb=>br ((b:Z)∈c.take (d+1))):=by
      refine db λk v=>?_;by_cases i:k=f
      ·grind [gH,aL]
      rw[hb _ _ i];refine cy.2 ⟨λe=>(j _).2 (.inl e),λe=>((j _).1 e).resolve_right λe=>i aa⟩
     rw[this];have:aB a (eC (λb=>if(b:Z)∈c.take d then(hM c b:Z) else 0) f (d:Z))=aB a (λb=>if(b:Z)∈c.take (d+1) then(hM c b:Z) else 0):=by
      refine db λk v=>?_;by_cases i:k=f
      ·subst i;rw[gH,au ((j _).2 (.inr bn)),s k bn l]
      rw[hb _ _ i];have:(k:Z)∈c.take (d+1)↔(k:Z)∈c.take d:=⟨λe=>((j _).1 e).resolve_right λe=>i aa,λe=>(j _).2 (.inl e)⟩;simp_all
     grind
    ·intro g w;rcases(j g).1 w with e|e
     ·grind
     omega
    grind [List.nodup_append,aik]
   rintro _ ⟨rfl,m,n⟩;dsimp only;rw[a1 (aI (show¬((a:Z)<al c) by grind))];rw[ch aa] at m n|-;have h:gx c a:=⟨p,m,n⟩;refine bu.2 (.inl ⟨?_,h⟩);have:aB a (λb=>if(b:Z)∈c then(hM c b:Z) else 0)=aB a (λb=>(hM c b:Z)):=db λb r=>cb (h.mem r);grind
  rintro o (⟨rfl,e⟩|⟨rfl,e⟩)
  ·simp_all [au,bu]
  simp_all [bu,az]
 rw[aY (by grind),az (λe=>p e.1)]
def lH (a b:X) (d c e f:aif):Z:=open Classical in if gz a b d c e≠0 then gz a b d c e else if a≠b then 5 else if gx f a then 0 else 90
theorem JZ (d:lH a b g c v f=0):gz a b g c v=0/\a=b/\gx f a:=by unfold lH at d;grind
theorem Sf (e:hJ b a f c g) (j:v.length<=1000000) (d:lH b a f c g v≠0):sI (((b:Z),(a:Z),f,c,g,()),v,())=Y (bo,lH b a f c g v,()):=by
 classical
 unfold sI;unfold lH at d|-;refine ai e.check ?_;dsimp only;have k:=e.hr;by_cases h:gz b a f c g=0
 ·rw[az (aii h)] at d|-;rw[a1 (by grind)];by_cases i:b=a
  ·subst i;rw[az (aii bn)] at d|-;rw[a1 (by grind)];refine ai (PP aa j) ?_;grind
  grind
 grind
def kz (a:X) (E:bm cU) (b:aif):ew:=jG (jY (jX a (jI E)) b)
theorem HT (b:X) (c:X->X->bA):∀a∈jX b c,a.length<=b:=by intro a d;unfold jX aB at d;grind [aiH,fH]
theorem z9 (a:X) (b:X->X->bA):(jX a b).length=a:=cX _ _
theorem VQ (c:X) (E:bm cU):jX c (jI E)=jG (h5 c (lI E)):=by rw[M0];have:(λa b=>a !=b&&(lI E a b||lI E b a))=jI E:=(by grind [Nx]);grind
theorem PN (e:a<=12) {E:bm cU} (b:gx c a):mx (jX a (jI E)) c=0:=by unfold mx;have d:ix (jX a (jI E))=0:=qT.2 ⟨by grind [z9],by grind [HO,VQ]⟩;rw[az (aii d),az (aii (by rw[z9];exact b.1)),z9,au b]
theorem Sq (e:a<=12) {E:bm cU} (b:gx c a):za ((jX a (jI E),()),c,())=Y ((kz a E c,()),0,()):=by rw[Sp (λf d=>by have:=HT a _ f d;omega) c (λ_ _=>by grind [z9]) (by rw[b.1];omega),au (PN e b)];rfl
def P4 (d:a<=12) {E:bm cU} (e:gx c a):q6 ((jX a (jI E),()),c,())=Y ((kz a E c,()),0,()):=by rw[JF (λf b=>by have:=HT a _ f b;omega) c,au (PN d e)];rfl
def D9 {E:bm cU} (b:gx c a):(kz a E c).length=a:=by unfold kz;rw[VF,xu,b.1]
def Ab (a:X) (E:bm cU) (b:aif):fj (kz a E b):=HO _
def VX (f:a<=12) {E:bm cU} (e:gx c a):∀b∈kz a E c,b.length<4611686018427387904:=λb d=>by have:=VG _ b d;rw[xu,e.1] at this;omega
def abV (d:mI a f c g) (k:hJ a a f c g) (e:gz a a f c g=0) (u:gx v a):Dx (((a:Z),(a:Z),f,c,g,()),v,())=Y ((kz a (gE (c6 f c g a)) v,()),()):=by have b:=(jE.1 e).1;have n:=(jE.1 e).2;have m:=rf b a (bc _);have o:=re b;have w:=d.el;have t:=d.xN;have p:=p1 b k.hw;have q:=p1 b (DW n);unfold Dx;refine ai (Jx d k e) ?_;have l:=xH m;have j:=xG o;have s:=JX (rows:=a) (c0:=a) (E:=gE (c6 f c g a)) aa aa aa (λi h=>p i (ht.1 h).1);have r:=GH l j (λi h=>q i (ht.1 h).1);have:=P3 s r;rw[Hw l j] at this;refine ai this ?_;exact ai (P4 (ez t ab) u) rfl
def R9 (h:mI a f c g) (r:hJ a a f c g) (j:gz a a f c g=0):y8 (rx a a (gE (c6 f c g a)),())=Y ((jX a (jI (gE (c6 f c g a))),()),0,()):=by have b:=(jE.1 j).1;have m:=(jE.1 j).2;have l:=rf b a (bc _);have n:=re b;have t:=h.el;have u:=h.xN;have o:=p1 b r.hw;have p:=p1 b (DW m);have k:=xH l;have i:=xG n;have s:=JX (rows:=a) (c0:=a) (E:=gE (c6 f c g a)) aa aa aa (λe d=>o e (ht.1 d).1);have q:=GH k i (λe d=>p e (ht.1 d).1);have:=R6 s q;rw[Hw k i] at this;exact this
def Hq:fk:=(bq,((bq,([],())),((0:Z),())))
def Uw:Hq=ay (Y 0):=by rw[hn];rfl
def Yc:a6 0=Y 0:=by decide
theorem N2 {j:Type}:∀(i:bm (Z×j)) (c:Z) (d:j) (b:Z),gb (kB i c d) b=if b=c then Y d else gb i b
 |[],c,d,b=>by
  show(if c=b then Y d else bo)=_;by_cases e:b=c
  ·rw[au e,au e.symm]
  rw[az e,az (λf=>e f.symm)];rfl
 |(a,u)::r,c,d,b=>by
  unfold kB;by_cases g:c<a
  ·rw[au g];show(if c=b then Y d else gb ((a,u)::r) b)=_;grind
  rw[az g];by_cases h:c=a
  ·rw[au h];show(if c=b then Y d else gb r b)=_;by_cases e:b=c
   ·rw[au e,au e.symm]
   rw[az e,az (λf=>e f.symm)];show _=(if a=b then Y u else gb r b);grind
  rw[az h];show(if a=b then Y u else gb (kB r c d) b)=_;rw[N2 r c d b];show _=if b=c then Y d else(if a=b then Y u else gb r b)
  grind
abbrev n1:=bv (bm (Z×fk)×X)
variable{N:bm n1}
def oh (a b:Z):Z:=if b>a then b else a
def nE (a b:Z):Z:=if b<a then b else a
def jV (E:bm cU) (a:aif) (b c:X):ah9:=a6 (mH E (oh (a.getD b 0) (a.getD c 0)) (nE (a.getD b 0) (a.getD c 0)))
theorem UP (E:bm cU) (a:aif) (b c:X):jV E a b c=jV E a c b:=by grind [oh,nE,jV]
structure ln (n:X) (o:aif) (D:bm cU) (M:bm n1):Prop where
 len:M.length=n
 get:∀p,p<n->∃l c,M[p]?=Y (Y (l,c))/\∀q,q<n->p<=q->(gb l (q:Z)).getD Hq=ay (jV D o p q)
def ln.nil:ln a c [] (aB a λ_=>Y ([],0)) where
 len:=cX _ _
 get:=λd b=>⟨[],0,jn b,λe _ _=>by
  show Hq=ay (a6 0);rw[Yc,Uw]⟩
theorem EZ (d:gx c b) (e:a<b):c.getD a 0=(nK c a:Z)/\nK c a<b:=by have f:a<c.length:=(by rw[d.1];exact e);have:=d.2.1 c[a] (cR f);grind [mT,nK]
theorem abB (d:gx c b) {e:X} (j:e<b) (i:a<b) (n:a<=e) (f:h<b) (g:r<b) (o:h<=r):(nE (hM c e:Z) (hM c a:Z)=(h:Z)/\oh (hM c e:Z) (hM c a:Z)=(r:Z))↔(e:Z)=oh (c.getD h 0) (c.getD r 0)/\(a:Z)=nE (c.getD h 0) (c.getD r 0):=by
 obtain⟨k,p⟩:=EZ d f;obtain⟨aw,s⟩:=EZ d g;obtain⟨u,v⟩:=d.pos j;obtain⟨l,m⟩:=d.pos i;have q:=d.PS f;have t:=d.PS g;rw[k,aw];constructor
 ·grind [aq,oh,nE,hM]
 grind [nK,nE,oh,aq]
theorem ln.skip (b:ln a c t N) (j:(t++[u]).Pairwise hh) (n:u.1<u.2.1):ln a c (t++[u]) N where
 len:=b.len
 get:=λl g=>by obtain⟨k,d,e,f⟩:=b.get l g;refine⟨k,d,e,λm i h=>?_⟩;rw[f m i h];unfold jV;rw[Rz j,az];grind [nE,oh]
theorem ln.add (y:gx c r) (g:ln r c t N) {i:X} (A:(t++[((b:Z),(a:Z),d,())]).Pairwise hh) (z:b<r) (u:a<r) (v:a<=b) (G:(h:Z)=nE (hM c b:Z) (hM c a:Z)) (F:(i:Z)=oh (hM c b:Z) (hM c a:Z)) {m:bm (Z×fk)} {B C:X} (w:N[h]?=Y (Y (m,B))):ln r c (t++[((b:Z),(a:Z),d,())]) (N.set h (Y (kB m (i:Z) (ay (a6 d)),C))) where
 len:=by rw[akl,g.len]
 get:=λf j=>by
  have x:h<N.length:=(hH.1 w).1;have D:∀e,e<r->f<=e->ay (jV (t++[((b:Z),(a:Z),d,())]) c f e)=if h=f/\i=e then ay (a6 d) else ay (jV t c f e):=by intro e l k;have:=abB y z u v j l k;unfold jV;rw[Rz A];grind
  by_cases o:f=h
  ·subst o;refine⟨_,_,List.getElem?_set_self x,λe l k=>?_⟩;rw[N2,D e l k];by_cases p:i=e
   ·grind
   rw[az aa,az (λg=>p g.2)];obtain⟨E,n,q,s⟩:=g.get f j;grind
  obtain⟨E,n,q,s⟩:=g.get f j;grind
theorem abQ (k:hJ a a g f v) (j:gz a a g f v=0) (e:gx c a) (o:b<a) (p:h<a):w8 (((a:Z),(a:Z),g,f,v,()),c,(b:Z),(h:Z),())=Y (ay (jV (c6 g f v a) c b h),()):=by obtain⟨r,s⟩:=EZ e o;obtain⟨aw,t⟩:=EZ e p;have q:=e.1;have l:=p1 (jE.1 j).1 k.hw;unfold w8;refine ai (gY aa) (ai (gY aa) ?_);obtain⟨d,m,n⟩:∃d:X,nE (c.getD b 0) (c.getD h 0)=(d:Z)/\d<a:=(by grind [nE]);have i:=P1 k j (oh (c.getD b 0) (c.getD h 0)) n;rw[<-m] at i;refine ai i ?_;dsimp only;refine ai (kG (aek l _ _)) rfl
theorem Sg (x:mI a g f c) (p:hJ a a g f c) (z:gz a a g f c=0) (q:gx v a):∃d,ln a v (c6 g f c a) d/\sI (((a:Z),(a:Z),g,f,c,()),v,())=Y (Y ((a:Z),(kz a (gE (c6 g f c a)) v,()),d,()),0,()):=by
 have Q:=x.xN;have j:=(jE.1 z).1;have ap:=rf j a (bc _);have a0:=re j;have ce:=q.1;have a3:=p1 j p.hw;suffices D:ae (sI (((a:Z),(a:Z),g,f,c,()),v,())) λh=>∃d,ln a v (c6 g f c a) d/\h=(Y ((a:Z),(kz a (gE (c6 g f c a)) v,()),d,()),0,()) by obtain⟨h,am,d,an,rfl⟩:=D;grind
 unfold sI;refine bz p.check ?_;dsimp only;rw[a1 (by grind),a1 (by grind)];refine bz (PP aa aa) ?_;rw[cb q];dsimp only;rw[Bool.not_true,bP];refine bz (Sd x p z) (bz (R9 x p z) (bz (Sq (cu Q ab) q) ?_));dsimp only;generalize av:kz a (gE (c6 g f c a)) v=n;refine bz (h6 aa) ?_;generalize O:(((a:Z),(a:Z),g,f,c,()):c5)=J;refine bD (P:=λh=>h=(J,((a:Z),(n,()),aB a (λ_=>(Y ([],0):n1)),()),())) ?_ ?_
 ·refine bL a (λm r=>r=((m:Z),J,((a:Z),(n,()),aB a (λl=>if l<m then(Y ([],0):n1) else bo),()),())) ?_ ?_ ?_
  ·rw[jc];rfl
  ·rintro m _ M rfl;dsimp only;rw[aY (aL (show(m:Z)<al (bJ a (bo:n1)) by grind)),bi aa];refine bz (eU (by grind [cX])) ?_;rw[gW M,hB];refine bu.2 ?_;have:aB a (eC (λl=>if l<m then(Y ([],0):n1) else bo) m (Y ([],0)))=aB a (λl=>if l<m+1 then(Y ([],0):n1) else bo):=by
    refine db λl B=>?_;by_cases w:l=m
    ·simp_all [gH,au]
    rw[hb _ _ w];grind
   grind
  rintro _ rfl;dsimp only;rw[a1 (aI (show¬((a:Z)<al (bJ a (bo:n1))) by grind))];have:aB a (λl=>if l<a then(Y ([],0):n1) else bo)=aB a (λ_=>(Y ([],0):n1)):=db λl B=>cb B;grind [bu]
 rintro _ rfl;dsimp only;refine bD (P:=λh=>∃d,ln a v (c6 g f c a) d/\h=(((a:Z),(n,()),d,()),())) ?_ (by grind [bu]);subst O;refine bL a (λb r=>∃d,ln a v (c6 g f c b) d/\r=((b:Z),((a:Z),(a:Z),g,f,c,()),((a:Z),(n,()),d,()),())) ⟨_,ln.nil,bn⟩ ?_ ?_
 ·rintro b _ t ⟨d,o,rfl⟩;have u:=j.len;obtain⟨e,N⟩:=cB (j.pos b aa);obtain⟨k,G⟩:=cB (j.pos (b+1) aa);have bl:k<=f.length:=(by have:=j.p9 (b+1) aa;omega);have bx:e<=k:=(by have:=j.mono b t;omega);have B:=j.val;have a4:=p.hi;dsimp only;rw[aY (aL (aa:(b:Z)<(a:Z))),bi aa];refine bz (y:=(e:Z)) (by rw[gY aa,N]) ?_;have R:c6 g f c (b+1)=c6 g f c b++iP f c (b:Z) e (k-e):=by
   grind [c6]
  have T:(c6 g f c (b+1)).Pairwise hh:=rf j (b+1) aa;refine bD (P:=λh=>∃d,ln a v (c6 g f c (b+1)) d/\h=(((a:Z),(a:Z),g,f,c,()),((a:Z),(n,()),d,()),())) ?_ (by grind [bu]);refine bL (k-e) (λi r=>∃d,ln a v (c6 g f c b++iP f c (b:Z) e i) d/\r=(((e+i:X):Z),((a:Z),(a:Z),g,f,c,()),((a:Z),(n,()),d,()),())) ⟨d,by grind [iP],bn⟩ ?_ ?_
  ·rintro i _ ci ⟨d,o,rfl⟩;dsimp only;refine bz (y:=(k:Z)) (by rw[gY aa,G]) ?_;rw[aY (aL (aa:((e+i:X):Z)<(k:Z)))];have S:=j.rng b (e+i) t aa aa;obtain⟨h,A⟩:=cB S.1;have I:(c6 g f c b++iP f c (b:Z) e i++[((h:Z),(b:Z),c.getD (e+i) 0,())]).Pairwise hh:=by
    refine ani ?_ T;rw[R,i4];refine anJ (anK _) ?_;have:iP f c (b:Z) e i++[((h:Z),(b:Z),c.getD (e+i) 0,())]=iP f c (b:Z) e (i+1):=(by rw[iP,A]);rw[this,Hv,Hv,<-DT (k-e) (i+1) _ aa];grind
   have L:c6 g f c b++iP f c (b:Z) e (i+1)=c6 g f c b++iP f c (b:Z) e i++[((h:Z),(b:Z),c.getD (e+i) 0,())]:=(by rw[i4,iP,A]);rw[L];refine bD (P:=λad=>∃d,ln a v (c6 g f c b++iP f c (b:Z) e i++[((h:Z),(b:Z),c.getD (e+i) 0,())]) d/\ad=(((a:Z),(a:Z),g,f,c,()),((a:Z),(n,()),d,()),())) ?_ ?_
   ·refine bz (y:=(h:Z)) (by rw[gY aa,A]) ?_;rw[cO];refine aim (λw=>?_) (λw=>?_)
    ·have H:h<a:=aa;refine bz (by rw[e1 (by grind [cX]),lz]) (bz (by rw[e1 (by grind [cX]),lz]) ?_);obtain⟨s,E,K⟩:∃s:X,(s:Z)=nE (hM v h:Z) (hM v b:Z)/\s<a:=by
      have:=(q.pos H).1;have:=(q.pos t).1;unfold nE;split
      ·grind
      grind
     obtain⟨C,F⟩:∃C:X,(C:Z)=oh (hM v h:Z) (hM v b:Z):=(by unfold oh;grind);change ae ((bj d.length (nE (hM v h:Z) (hM v b:Z))).bind _) _;rw[<-E];refine bz (eU (by rw[o.len];omega)) ?_;refine bz (gY aa) ?_;refine bz (qb (p.hw _ (by grind))) ?_;dsimp only;obtain⟨V,U,u,_⟩:=o.get s K;refine bz (gj u) ?_;change ae ((xJ (Y (V,U)) (oh (hM v h:Z) (hM v b:Z)) _).bind _) _;rw[<-F];refine bz bn ?_;rw[gj u];exact bu.2 ⟨_,o.add q I H t aa E F u,bn⟩
    exact bu.2 ⟨d,o.skip I (by grind),bn⟩
   rintro _ ⟨d,D,rfl⟩;dsimp only;rw[bi aa];grind [bu]
  rintro _ ⟨d,o,rfl⟩;dsimp only;refine bz (y:=(k:Z)) (by rw[gY aa,G]) ?_;rw[a1 (aI (aa:¬((e+(k-e):X):Z)<(k:Z)))];grind [bu]
 rintro _ ⟨d,o,rfl⟩;dsimp only;rw[a1 (aI (aa:¬((a:Z)<(a:Z))))];grind [bu]
theorem acT {E:bm cU} (g:ln a c E N) (q:b<a) (r:h<a):xd (Y ((a:Z),(l,()),N,()),(b:Z),(h:Z),())=Y (ay (jV E c b h),()):=by
 unfold xd;dsimp only;rw[bM];have s:∀d e:X,d<a->e<a->d<=e->((ao N (d:Z)).bind λo=>Y (((mu (α:=fk) o (e:Z)).getD (bq,((bq,([],())),((0:Z),())))),()))=Y (ay (jV E c d e),()):=(by intro d e k n m;obtain⟨t,p,i,j⟩:=g.get d k;refine ai (gN i) ?_;have:=j e n m;rw[<-this];rfl);by_cases f:(h:Z)<(b:Z)
 ·rw[au f,az aa,UP];grind
 grind
theorem EL (a:cE d≠2047):∃c,a6 d=Y c:=by
 have aq:=zY d;have g:=xi d;unfold a6;rw[az a];unfold hD;generalize f:(if d<9223372036854775808 then if cE d=0 then gr d else gr d+4503599627370496 else-(if cE d=0 then gr d else gr d+4503599627370496))=b;have e:aN b.natAbs<=53:=fU.2 (by
  omega)
 split
 ·grind
 rw[az aa];grind
def adR (a:X->X->Z) (c d b:X):ah9:=c9 (cT (a6 (a b c)) (a6 (a b d)))
def JR (c:X->X->ah9) (d:X->X->Z) (a b:X):ah9:=qo (c b a::(bI a).map (adR d b a))
def T0 (b:X->X->ah9) (e:X->X->bA) (d:X->X->Z) (a c:X):Z:=
 if c=a then Fh (JR b d a a) 0 else if e a c=bp then gm (JR b d a c) (a6 (Fh (JR b d a a) 0)) 0 else 0
def Ix (a:X->X->ah9) (b:X->X->bA):X->X->X->Z
 |0=>λ_ _=>0
 |j+1=>λd c=>if d=j then T0 a b (Ix a b j) j c else Ix a b j d c
def vb (b:X->X->ah9) (d:X->X->bA) (a c:X):Z:=Ix b d (a+1) a c
theorem Wr (a:eP d):Dw (d,())=Y (br (k1 d=0),()):=by unfold Dw;have e:k1 d=0↔d=0\/d=9223372036854775808:=(by unfold k1 cE gr;obtain⟨b,c⟩:=a;omega);grind
def PV (a:eP d) (b:eP k):zQ (d,k,())=Y (ay (cT (a6 d) (a6 k)),()):=by unfold zQ;refine ai (kG a) (ai (kG b) ?_);exact ai (kF (gA _) (gA _)) rfl
def Jw {a:ah9} (b:cM O) (c:cM a):w7 (ay O,ay a,())=Y (gm O a 0,()):=by unfold w7;exact ai (acw b c) rfl
theorem EK {k:X} (b:d.natAbs=2*a+1):cH (d*2^k)=d/\hA (d*2^k)=(k:Z)-65536:=by have c:(d*2^k).natAbs=(2*a+1)*2^k:=(by rw[mv,b]);have e:=yb c;unfold cH hA;grind [al3,Int.pow_pos]
def PU (b:d≠0) (a:X):d*2^a≠0:=ann b (by have:(0:Z)<2^a:=m9 ab;omega)
theorem Oc (e:d.natAbs=2*h+1) (o:k+a+65536=(b:Z)) (m:-65536<=k) (n:k+a+aN d.natAbs<=65536):hD (d*2^a) k=Y (d*2^b):=by have l:d≠0:=aa;have f:(d*2^a).natAbs=(2*h+1)*2^a:=(by rw[mv,e]);have g:=yb f;have i:aN (d*2^a).natAbs=aN d.natAbs+a:=(by grind [mv,sl]);unfold hD;rw[az (PU l a),g,i,az aa];obtain⟨c,j⟩:=gh (aa:0<=k+65536);rw[j];show Y (qk (d*2^a) (c:Z))=_;rw[nS,j3,<-li,(aa:a+c=b)]
def HD {m:Z} {a t k:X} (c:d=m*2^t) (b:m.natAbs=2*a+1) (f:(t:Z)+65536=(k:Z)) (e:t+aN m.natAbs<=65536):jq d=Y (m*2^k):=by unfold jq;rw[c];exact Oc b aa ab aa
def DQ {a:X} (e:d.natAbs=2*a+1) (f:0<d) (c:Z):k5 (Y (d*2^b)) c=l5 bq d.natAbs ((b:Z)-65536) bq c:=by obtain⟨g,h⟩:=EK (k:=b) e;show x1 (d*2^b) c=_;unfold x1;rw[az (PU aa b),g,h,aI];have:(0:Z)<d*2^b:=qw f (m9 ab);omega
theorem Vb {a:X} (c:d.natAbs=2*a+1) (e:0<d):Fh (Y (d*2^b)) 0=Qr (Qq d.natAbs ((b:Z)-65536)) d.natAbs ((b:Z)-65536) 0:=by obtain⟨f,g⟩:=EK (k:=b) c;have:(0:Z)<d*2^b:=qw e (m9 ab);show(if d*2^b<0 then(9221120237041090560:Z) else if d*2^b=0 then 0 else JH (d*2^b) 0)=_;rw[az aa,az aa];grind [JH]
theorem Va {a b:X} (f:d.natAbs=2*a+1) (g:0<d) (c:P.natAbs=2*b+1) (e:0<P):gm (Y (d*2^h)) (Y (P*2^r)) 0=rG (m1 d.natAbs P.natAbs) d.natAbs P.natAbs bq ((h:Z)-65536-((r:Z)-65536)) 0:=by obtain⟨i,j⟩:=EK (k:=h) f;obtain⟨l,m⟩:=EK (k:=r) c;have n:(0:Z)<d*2^h:=qw g (m9 ab);have o:(0:Z)<P*2^r:=qw e (m9 ab);show(if P*2^r=0 then(9221120237041090560:Z) else if d*2^h=0 then 0 else vt (d*2^h) (P*2^r) 0)=_;rw[az aa,az aa];grind [aI,vt]
def DP {a t:X} (c:k.natAbs=2*a+1) (g:(if d<9223372036854775808 then if cE d=0 then gr d else gr d+4503599627370496 else-(if cE d=0 then gr d else gr d+4503599627370496))=k*2^t) (f:cE d≠2047) (h:(if cE d=0 then-1074 else cE d-1075)+(t:Z)+65536=(b:Z)) (e:(if cE d=0 then-1074 else cE d-1075)+(t:Z)+aN k.natAbs<=65536):a6 d=Y (k*2^b):=by unfold a6;rw[az f,g];refine Oc c h ?_ e;have:=zY d;omega
def f4:k5 (jq 4) 0=4616189618054758400:=by rw[HD (m:=1) (a:=0) (t:=2) (k:=65538) ab ab ab ab,DQ (a:=0) ab ab];decide
def f2:k5 (jq 2) 0=4611686018427387904:=by rw[HD (m:=1) (a:=0) (t:=1) (k:=65537) ab ab ab ab,DQ (a:=0) ab ab];decide
def f5:k5 (jq 5) 0=4617315517961601024:=by rw[HD (m:=5) (a:=2) (t:=0) (k:=65536) ab ab ab ab,DQ (a:=2) ab ab];decide
def v4:a6 4616189618054758400=Y (1*2^65538):=DP (a:=0) (t:=52) ab ab ab ab ab
def fv:a6 4611686018427387904=Y (1*2^65537):=DP (a:=0) (t:=52) ab ab ab ab ab
def Kr:a6 4617315517961601024=Y (5*2^65536):=DP (a:=2) (t:=50) ab ab ab ab ab
def v1:a6 4607182418800017408=Y (1*2^65536):=DP (a:=0) (t:=52) ab ab ab ab ab
def aJ:Fh (Y (1*2^65538)) 0=4611686018427387904:=by rw[Vb (a:=0) ab ab];decide+kernel
theorem aw:gm (Y (1*2^65537)) (Y (1*2^65537)) 0=4607182418800017408:=by rw[Va (a:=0) (b:=0) ab ab ab ab];decide
theorem U8:gx [0,1] 2:=⟨bn,λb a=>by
 grind,ab⟩
def HC:ew:=[[1],[0]]
theorem R5 (a b:aif) (c:a.length<4611686018427387904):zx (a,b,())=Y (a==b,()):=FQ a b c
def md (g f e:X) (h a d:aif):Prop:=∃c,c<=a.length/\gq g f h (a.take c) (d.take c)/\d.length=a.length/\(∀b,c<=b->b<a.length->0<=a.getD b 0/\a.getD b 0<(e:Z))/\(∀b,c<b->b<a.length->a.getD (b-1) 0<a.getD b 0)
def gq.open (d:gq b a f c g):md b a 0 f c g:=
 ⟨c.length,bc _,by rw[fB (bc _),fB (Nat.le_of_eq d.val)];exact d,d.val,λi h e=>absurd e aa,λi h e=>absurd e aa⟩
theorem md.skip (i:md h b a f c g):md h b (a+1) f c g:=by obtain⟨o,j,k,l,m,n⟩:=i;exact⟨o,j,k,l,λp d e=>by have:=m p d e;omega,n⟩
def Aa (b:a<c.length):(c++[d]).getD a 0=c.getD a 0:=by rw[lR,qC b,<-lR]
def HU:(c++[d]).getD c.length 0=d:=by rw[lR,pu (bc _)];simp
theorem md.add (l:md h b a f c g) (q:Z):md h b (a+1) f (c++[(a:Z)]) (g++[q]):=by
 obtain⟨p,m,n,r,k,o⟩:=l;refine⟨p,by simp;omega,?_,by simp;omega,λe i j=>?_,λe i j=>?_⟩
 ·rw[tQ m,tQ aa];exact n
 ·rw[jN,px] at j;rcases cQ e c.length with d|d
  ·rw[Aa d];have:=k e i d;omega
  obtain rfl:e=c.length:=aa;rw[HU];omega
 rw[jN,px] at j;rcases cQ e c.length with d|d
 ·rw[Aa d,Aa aa];exact o e i d
 obtain rfl:e=c.length:=aa;rw[HU,Aa aa];exact(k (c.length-1) aa aa).2
def HV (d:a<b):(c.take b).getD a 0=c.getD a 0:=by rw[lR,r2 d,<-lR]
def md.close (s:md b a b f c g):gq b (a+1) (f++[(c.length:Z)]) c g:=by
 obtain⟨x,o,k,t,u,v⟩:=s;have p:=k.len;have q:=k.last;rw[fQ,hI o] at q;have n:(f++[(c.length:Z)]).getD (a+1) 0=(c.length:Z):=(by rw[<-p];exact HU);have e:∀d,d<=a->(f++[(c.length:Z)]).getD d 0=f.getD d 0:=λd l=>Aa aa;have r:∀d,d<=a->f.getD d 0<=(x:Z):=λd l=>(by have:=k.p9 d l;rw[fQ,hI o] at this;exact this);refine⟨by simp[p],by rw[e 0 aa];exact k.first,λd l=>?_,n,t,λd m l i j=>?_,λd m l i j=>?_⟩
 ·rcases cQ d a with h|h
  ·rw[e d aa,e (d+1) aa];exact k.mono d h
  obtain rfl:d=a:=aa;rw[e d aa,n,q];omega
 ·rcases cQ d a with h|h
  ·rw[e d aa] at i;rw[e (d+1) aa] at j;have w:=r (d+1) aa;have:=k.rng d m h i j;rw[HV aa] at this;exact this
  obtain rfl:d=a:=aa;rw[e d aa] at i;rw[n] at j;exact u m aa aa
 rcases cQ d a with h|h
 ·rw[e d aa] at i;rw[e (d+1) aa] at j;have w:=r (d+1) aa;have:=k.asc d m h i j;rw[HV aa,HV aa] at this;exact this
 obtain rfl:d=a:=aa;rw[e d aa] at i;rw[n] at j;exact v m aa aa
theorem gq.empty (d:X):gq d 0 [0] [] []:=⟨bn,bn,λb a=>absurd a aa,bn,bn,λb c a=>absurd a aa,λb c a=>absurd a aa⟩
structure vZ (P:Z->Prop) (rows c0:X) (m:c5):Prop where
 ex:∃st mU qr,m=((rows:Z),(c0:Z),st,mU,qr,())/\gq rows c0 st mU qr/\(∀v∈qr,P v)/\mU.length<=c0*rows
abbrev rW:=vZ eP
def rW.ade (i:b<=6) (h:a<=6) (d:gq b a g c f) (e:∀j∈f,eP j) (k:c.length<=a*b):hJ b a g c f:=by have l:a*b<=6*6:=mO h i;exact⟨aa,aa,aa,by rw[d.len];omega,by rw[d.val];omega,e⟩
def R7 (z:∀o,eP o->ae (uE (o,d,())) λF=>p F.1) (C:c.length<=9223372036854775807) (D:a<=6) (A:b<=6):ae (uD (c,(a:Z),(b:Z),d,())) λl=>vZ p a b l.1:=by
 have M:b*a<=6*6:=alc A D;unfold uD;dsimp only;refine bD (P:=λl=>vZ p a b l.2.1) ?_ (by rintro⟨G,H,_⟩ r;exact bu.2 r);refine bL b (λg s=>∃h e f,s=((g:Z),((0:Z),((0:Z),([],([],([],()))))),((a:Z),(b:Z),h,e,f,()),())/\gq a g h e f/\(∀i∈f,p i)/\e.length<=g*a) ?_ ?_ ?_
 ·exact⟨[0],[],[],bn,gq.empty a,ac,ac⟩
 ·rintro g _ B ⟨h,e,f,rfl,u,y,J⟩;have L:g*a+a<=6*6:=by
   have:(g+1)*a<=b*a:=jj _ B;rw[mN,ng] at this;omega
  dsimp only;rw[aY (aL (aa:(g:Z)<(b:Z))),bi aa];refine bD (P:=λl=>∃e f,l=(((0:Z),((0:Z),([],([],([],()))))),((a:Z),(b:Z),h,e,f,()),())/\md a g a h e f/\(∀i∈f,p i)/\e.length<=g*a+a) ?_ ?_
  ·refine bL a (λj s=>∃e f,s=((j:Z),((0:Z),((0:Z),([],([],([],()))))),((a:Z),(b:Z),h,e,f,()),())/\md a g j h e f/\(∀i∈f,p i)/\e.length<=g*a+j) ?_ ?_ ?_
   ·exact⟨e,f,bn,u.open,y,aa⟩
   ·rintro j _ K ⟨e,f,rfl,q,t,I⟩;have N:f.length=e.length:=by
     obtain⟨O,_,_,r,_⟩:=q;exact r
    dsimp only;rw[aY (aL (aa:(j:Z)<(a:Z))),bi aa];refine bD (P:=λl=>∃e f,l=(((0:Z),((0:Z),([],([],([],()))))),((a:Z),(b:Z),h,e,f,()),())/\md a g (j+1) h e f/\(∀i∈f,p i)/\e.length<=g*a+(j+1)) ?_ ?_
    ·refine bD (Ku c C _) ?_;rintro⟨E,_⟩ w;dsimp only at w|-;rw[tu ab ab,bM];unfold iM;rw[cb ab,bM,cO];refine aim (λx=>?_) (λx=>?_)
     ·rw[dc (by simp;omega),bM];refine bD (z E w) ?_;rintro⟨i,_⟩ v;dsimp only at v|-;rw[dc (by simp;omega),bM];refine bu.2 ⟨_,_,bn,q.add i,λo n=>?_,by simp;omega⟩;rcases List.mem_append.1 n with n|n
      ·exact t o n
      obtain rfl:=gp.1 n;exact v
     exact bu.2 ⟨_,_,bn,q.skip,t,aa⟩
    rintro _ ⟨e,f,rfl,aw,k,m⟩;exact bu.2 ⟨e,f,bn,aw,k,m⟩
   rintro _ ⟨e,f,rfl,aw,k,m⟩;dsimp only;rw[a1 (aI (aa:¬((a:Z)<(a:Z))))];exact bu.2 ⟨e,f,bn,aw,k,m⟩
  rintro _ ⟨e,f,rfl,aw,k,m⟩;dsimp only;rw[dc (by rw[u.len];simp;omega),bM];refine bu.2 ⟨_,_,_,bn,aw.close,k,by rw[Nat.add_mul,Nat.one_mul];omega⟩
 rintro _ ⟨h,e,f,rfl,aw,k,m⟩;dsimp only;rw[a1 (aI (aa:¬((b:Z)<(b:Z))))];exact bu.2 ⟨h,e,f,bn,aw,k,m⟩
def rW.small (j:b<=5) (i:a<=5) (d:gq b a g c f) (e:∀k∈f,eP k) (h:c.length<=a*b):hJ b a g c f:=
 rW.ade (ez j ab) (ez i ab) d e h
def KM (f:∀e,eP e->ae (uE (e,d,())) λk=>p k.1) (h:c.length<=9223372036854775807) (i:b<=5) (g:a<=5):ae (uD (c,(b:Z),(a:Z),d,())) λj=>vZ p b a j.1:=
 R7 f h (ez i ab) (ez g ab)
def R8 (g:c.length<=9223372036854775807) (h:b<=5) (f:a<=5) (d:Z):ae (uD (c,(b:Z),(a:Z),d,())) λi=>rW b a i.1:=
 KM (λ_ e=>OC e d) g h f
theorem aej (e:p 0) {E:bm cU} (d:∀c∈E,p c.2.2.1) (a b:Z):p (mH E a b):=by grind [anl,decide,mH]
theorem RN (i:p 0) (j:hJ b a g f c) (m:∀d∈c,p d) (k:Z) (l:h<a):∃d,p d/\sF (((b:Z),(a:Z),g,f,c,()),k,(h:Z),())=Y (d,()):=by
 by_cases e:gz b a g f c=0
 ·exact⟨_,aej i (p1 (jE.1 e).1 m) _ _,P1 j e k l⟩
 refine⟨0,i,?_⟩;unfold sF;refine ai (y:=.inr (0,())) ?_ bn;refine ai j.vu ?_;grind
theorem Sv (n:hJ h b f c g) (i:gq h b f c g) (d:r<h) (p:a<b):∃k,zH (((h:Z),(b:Z),f,c,g,()),(r:Z),(a:Z),())=Y (k,()):=by
 have s:=i.pos a aa;have t:=i.pos (a+1) aa;have B:=i.p9 (a+1) aa;have z:=i.mono a p;have x:=i.len;have w:=n.hi;have v:=n.hc;suffices l:ae (zH (((h:Z),(b:Z),f,c,g,()),(r:Z),(a:Z),())) λo=>True by obtain⟨⟨k,_⟩,l,_⟩:=l;grind
 unfold zH;dsimp only;rw[aI (aa:¬((r:Z)<0)),aI (aa:¬((r:Z)>=(h:Z))),aI (aa:¬((a:Z)<0)),aI (aa:¬((a:Z)>=(b:Z)))];refine bz (y:=.inl ()) rfl ?_;dsimp only;obtain⟨e,q⟩:=cB s;obtain⟨d,m⟩:=cB t;refine bz (y:=(e:Z)) (by rw[gY aa,q]) ?_;refine bD (P:=λo=>True) ?_ ?_
 ·refine bL (d-e) (λj u=>u=(((e+j:X):Z),())) rfl ?_ ?_
  ·rintro j _ A rfl;dsimp only;refine bz (y:=(d:Z)) (by rw[bi aa,gY aa,m]) ?_;rw[aY (aL (aa:((e+j:X):Z)<(d:Z)))];refine bz (gY aa) ?_;rw[gK,cO];refine aim (λ_=>bu.2 trivial) (λ_=>?_);rw[bi aa];grind [bu]
  rintro _ rfl;dsimp only;refine bz (y:=(d:Z)) (by rw[bi aa,gY aa,m]) ?_;rw[a1 (aI (aa:¬(((e+(d-e):X):Z)<(d:Z))))];exact bu.2 trivial
 rintro(_|o) _
 ·exact bu.2 trivial
 exact bu.2 trivial
structure RR (P Q:Z->Prop) (adv:Z):Prop where
 z:P 0
 w:∀v,P v->eP v
 q:∀v,P v->Q v
 num:∀x,eP x->ae (uE (x,(s8 adv 3:X),())) λy=>P y.1
 Ul:∀L:et,L.length<=5->(∀d∈L,∃v,P v/\d=pL (a6 v))->Q (k5 (qo (jq 1::L)) 2)
theorem RS {P:Z->Prop} (s:RR P p d) (bl:c.length<=9223372036854775807) (t:a<=5):ae (zt (c,(a:Z),d,())) λk=>vZ p a a k.1:=by
 have cv:a*a<=5*5:=alc t t;unfold zt;refine bz (At d (n:=3) ab ab) ?_;refine bD (KM s.num bl t t) ?_;rintro⟨o,_⟩ I;dsimp only at I|-;obtain⟨U,T,V,rfl,J,K,a4⟩:=I.ex;have L:=rW.small t t J (λf u=>s.w f (K f u)) a4;have H:=λ(i:Z) (g:X) (r:g<a)=>RN s.z L K i r;have an:=λ(i g:X) (B:i<a) (r:g<a)=>Sv L J B r;generalize(((a:Z),(a:Z),U,T,V,()):c5)=o at*;refine bD (P:=λk=>vZ p a a k.2.1) ?_ (by grind [bu]);refine bL a (λg v=>∃j e b,v=((g:Z),((0:Z),((0:Z),([],([],([],()))))),o,((a:Z),(a:Z),j,e,b,()),())/\gq a g j e b/\(∀f∈b,p f)/\e.length<=g*a) ?_ ?_ ?_
 ·grind [gq.empty]
 ·rintro g _ r ⟨j,e,b,rfl,G,am,ci⟩;have co:g*a+a<=5*5:=by
   have:(g+1)*a<=a*a:=jj _ r;grind
  dsimp only;rw[aY (aL (aa:(g:Z)<(a:Z))),bi aa];refine bD (P:=λk=>∃e b,k=(((0:Z),((0:Z),([],([],([],()))))),o,((a:Z),(a:Z),j,e,b,()),())/\md a g a j e b/\(∀f∈b,p f)/\e.length<=g*a+a) ?_ ?_
  ·refine bL a (λi v=>∃e b,v=((i:Z),((0:Z),((0:Z),([],([],([],()))))),o,((a:Z),(a:Z),j,e,b,()),())/\md a g i j e b/\(∀f∈b,p f)/\e.length<=g*a+i) ?_ ?_ ?_
   ·exact⟨e,b,bn,G.open,am,aa⟩
   ·rintro i _ B ⟨e,b,rfl,y,S,ce⟩;have c1:b.length=e.length:=by
     obtain⟨l,_,_,ad,_⟩:=y;exact ad
    dsimp only;rw[aY (aL (aa:(i:Z)<(a:Z))),bi aa];refine bD (P:=λk=>∃e b,k=(((0:Z),((0:Z),([],([],([],()))))),o,((a:Z),(a:Z),j,e,b,()),())/\md a g (i+1) j e b/\(∀f∈b,p f)/\e.length<=g*a+(i+1)) ?_ ?_
    ·have M:∀(F:Z),p F->∀f∈b++[F],p f:=λF c2 f u=>by
      grind
     rw[gK,cO];refine aim (λQ=>?_) (λQ=>?_)
     ·refine bz (E8 ab ab) ?_;dsimp only;refine bD (P:=λk=>∃h:et,k=(((0:Z),((0:Z),([],([],([],()))))),o,((a:Z),(a:Z),j,e,b,()),(jq 1::h).map ay,())/\(∀m∈h,∃f,P f/\m=pL (a6 f))/\h.length<=a) ?_ ?_
      ·refine bL a (λl v=>∃h:et,v=((l:Z),((0:Z),((0:Z),([],([],([],()))))),o,((a:Z),(a:Z),j,e,b,()),(jq 1::h).map ay,())/\(∀m∈h,∃f,P f/\m=pL (a6 f))/\h.length<=l) ?_ ?_ ?_
       ·simp_all
       ·rintro l _ cs ⟨h,rfl,D,N⟩;dsimp only;rw[aY (aL (aa:(l:Z)<(a:Z))),bi aa];refine bD (P:=λk=>∃h:et,k=(((0:Z),((0:Z),([],([],([],()))))),o,((a:Z),(a:Z),j,e,b,()),(jq 1::h).map ay,())/\(∀m∈h,∃f,P f/\m=pL (a6 f))/\h.length<=l+1) ?_ ?_
        ·rw[fO,<-decide_not,cO];refine aim (λR=>?_) (λR=>?_)
         ·obtain⟨x,av,a0⟩:∃x:X,(if(l:Z)<(i:Z) then(l:Z) else(i:Z))=(x:Z)/\x<a:=by
           grind
          rw[av];obtain⟨f,u,C⟩:=H (if(l:Z)>(i:Z) then(l:Z) else(i:Z)) x a0;refine bz C (bz (kG (s.w f u)) (bz (P7 (gA _)) ?_));rw[dc (by grind)];refine bu.2 ⟨h++[pL (a6 f)],ac,λm a3=>?_,by grind⟩;grind
         grind [bu]
        grind [bu]
       rintro _ ⟨h,rfl,D,N⟩;dsimp only;rw[a1 (aI (aa:¬((a:Z)<(a:Z))))];grind [bu]
      rintro _ ⟨h,rfl,D,N⟩;dsimp only;rw[dc (by grind),bM];have bx:∀m∈jq 1::h,cM m:=λm a3=>(by grind [SS,gA,u3]);refine bz (ack bx (by grind)) ?_;refine bz (JI (adz _)) ?_;dsimp only;rw[dc (by grind),bM];exact bu.2 ⟨_,_,bn,y.add _,M _ (s.Ul h aa D),by grind⟩
     obtain⟨O,ap⟩:=an i g B r;refine bz ap ?_;dsimp only;cases O with
     |true=>
      rw[bG,dc (by grind),bM];obtain⟨f,u,C⟩:=H (i:Z) g r;refine bz C ?_;dsimp only;rw[dc (by grind),bM];exact bu.2 ⟨_,_,bn,y.add _,M _ (s.q _ u),by grind⟩
     |false=>
      rw[bP];exact bu.2 ⟨_,_,bn,y.skip,S,aa⟩
    grind [aw,bu]
   rintro _ ⟨e,b,rfl,aw,A,E⟩;dsimp only;rw[a1 (aI (aa:¬((a:Z)<(a:Z))))];grind [bu]
  rintro _ ⟨e,b,rfl,aw,A,E⟩;dsimp only;rw[dc (by rw[G.len];grind),bM];refine bu.2 ⟨_,_,_,bn,aw.close,A,by grind⟩
 rintro _ ⟨j,e,b,rfl,aw,A,E⟩;dsimp only;rw[a1 (aI (aa:¬((a:Z)<(a:Z))))];exact bu.2 ⟨j,e,b,bn,aw,A,E⟩
def RT (b:c.length<=9223372036854775807) {n:X} (d:n<=5) (f:Z):ae (zt (c,(n:Z),f,())) λe=>rW n n e.1:=
 RS (P:=eP) ⟨⟨ab,ab⟩,λ_ a=>a,λ_ a=>a,λ_ a=>OC a _,λ_ _ _=>A5 _ _⟩ b d
theorem Si (j:c.length<=9223372036854775807) (r:a<=12):ae (zu (c,(a:Z),())) λd=>d.1.Perm ((bI a).map (λf:X=>(f:Z))):=by
 unfold zu;dsimp only;refine bD (P:=λd=>d.1.Perm ((bI a).map (λf:X=>(f:Z)))) ?_ (by grind [bu]);refine bL a (λe p=>∃b,p=(b,(e:Z),())/\b.Perm ((bI e).map (λf:X=>(f:Z)))) ⟨[],bn,aks _⟩ ?_ ?_
 ·rintro e _ q ⟨b,rfl,l⟩;have k:b.length=e:=(by have:=l.length_eq;grind);dsimp only;rw[aY (aL (aa:(e:Z)<(a:Z))),bi aa];refine bD (Ku c j _) ?_;rintro⟨i,_⟩ o;dsimp only at o|-;rw[tu ab ab,bM];refine bz (At _ (n:=e+1) aa aa) ?_;have s:=ED (ax (i/2^(1:Z).toNat)) (n:=e+1) aa;dsimp only;generalize s8 (ax (i/2^(1:Z).toNat)) (e+1)=d at*;refine bz (Fr aa) ?_;dsimp only;rw[dc (by grind),bM,dc (by grind),bM];have m:((gu (d:Z)).bind λg=>(Y b.length).bind λh=>(g9 g h b.length).map λ_=>(g,h))=Y (d,b.length):=by
   have:gu (d:Z)=Y d:=(by simp_all [au,fJ,gu]);rw[this];show(g9 d b.length b.length).map _=_;unfold g9;grind
  refine bz m ?_;dsimp only;rw[dc (by grind),bM];refine bu.2 ⟨_,bn,?_⟩;rw[aiI,ak9,cA];have t:b.take d++b.drop d=b:=ajM d b;grind
 rintro _ ⟨b,rfl,k⟩;simp_all [bu,a1,aI]
theorem Sh (d:c.length<=9223372036854775807) {n:X} (e:n<=5):ae (zu (c,(n:Z),())) λa=>a.1.length=n:=
 (Si d (ez e ab)).mono λa b=>by have:=b.length_eq;grind
theorem EH (a:X):gu (a:Z)=Y a:=by simp_all [au,fJ,gu]
def ad2 (e:a*2^h=b*2^r) (g:0<a) (f:0<b):c3 a+h=c3 b+r/\aN a+h=aN b+r:=by have c:=b4 c3 e;have d:=b4 aN e;rw[Kk aa,Kk f] at c;rw[sl aa,sl f] at d;exact⟨c,d⟩
theorem Oq (a:k*d=P*2^65536) (q:fI P):cT (Y k) (Y d)=Y P:=by
 show hD (cH k*cH d) (c7 k+c7 d)=Y P;have f:∀g:X,(2:Z)^g≠0:=λg=>(by have:(0:Z)<2^g:=m9 ab;omega);by_cases b:k=0
 ·rw[b,qx] at a;rw[b,EJ,qx,(Int.mul_eq_zero.1 a.symm).resolve_right (f _)];rfl
 by_cases c:d=0
 ·rw[c,akj] at a;rw[c,EJ,akj,(Int.mul_eq_zero.1 a.symm).resolve_right (f _)];rfl
 have t:=te k;have u:=te d;have aP:=js b;have s:=js c;have w:=Ay.1 ⟨aa,OF b⟩;have x:=Ay.1 ⟨aa,OF c⟩;have o:cH k*cH d≠0:=ann aP s;have j:c3 (cH k*cH d).natAbs=0:=(by refine(Ay.2 ?_).2;rw[ajY,Nat.mul_mod,w,x]);have aq:cH k*cH d*2^(c3 k.natAbs+c3 d.natAbs)=P*2^65536:=by
  rw[<-a,li]
  conv=>rhs;rw[<-t,<-u]
  rw[j3,j3,Int.mul_left_comm (cH d)]
 have m:c7 k=(c3 k.natAbs:Z)-65536:=(by rw[c7,az b];rfl);have n:c7 d=(c3 d.natAbs:Z)-65536:=(by rw[c7,az c];rfl);rw[m,n];generalize c3 k.natAbs=h at*;generalize c3 d.natAbs=i at*;generalize cH k*cH d=A at*;have e:=b4 Int.natAbs aq;rw[mv,mv] at e;have r:0<P.natAbs:=abC e aa;obtain⟨l,y⟩:=ad2 e aa r;rw[j] at l;have z:aN P.natAbs<=131072:=q;unfold hD;rw[az o,j,az aa];obtain⟨v,p⟩:=gh (aa:0<=(h:Z)-65536+((i:Z)-65536)+65536);rw[p,nS];congr 1;have:h+i=v+65536:=aa;rw[this,li,<-j3] at aq;exact Int.mul_eq_mul_right_iff (f _)|>.1 aq
def nJ (a:Z):Z:=if a<9223372036854775808 then if cE a=0 then gr a else gr a+4503599627370496 else-(if cE a=0 then gr a else gr a+4503599627370496)
def oZ (a:Z):Z:=if cE a=0 then-1074 else cE a-1075
def HB (a:cE d≠2047):-1074<=oZ d/\oZ d<=971:=by have:=zY d;unfold oZ;split<;>omega
def Ol (a:Z):aN (nJ a).natAbs<=53:=fU.2 (by
 have b:=xi a;have:(2:X)^53=9007199254740992:=ab;rw[this];unfold nJ;split<;>split<;>omega)
def xP (b:cE d≠2047):a6 d=Y (nJ d*2^(oZ d+65536).toNat):=by
 have h:=HB b;have g:=Ol d;unfold a6;rw[az b];change hD (nJ d) (oZ d)=_;generalize nJ d=f at*;generalize oZ d=c at*;unfold hD;by_cases a:f=0
 ·rw[au a,a,qx]
 rw[az a,az aa];obtain⟨i,e⟩:=gh (aa:0<=c+65536);rw[e,nS,fJ]
section
theorem abU {st A B:aif} (e:hJ b a st A B) {o:aif} (f:o.length<=1000000) (d:lH b a st A B o≠0) (c:iu):w9 (((b:Z),(a:Z),st,A,B,()),o,c,())=Y (lH b a st A B o,()):=by simp_all [fO,aI,ai,P5,lH,w9]
section
variable {n:X} {st A B o:aif}
end
end
def Jv (a b:X):(2:Z)^(a+b)=2^a*2^b:=li 2 a b
def jf (a:X) (b:Z):Prop:=∃c,b=c*2^a
theorem jf.zero (a:X):jf a 0:=⟨0,by rw[qx]⟩
theorem jf.add (c:jf a d) (b:jf a k):jf a (d+k):=by obtain⟨e,rfl⟩:=c;obtain⟨f,rfl⟩:=b;exact⟨e+f,by rw[ak7]⟩
def jf.neg (b:jf a d):jf a (-d):=by obtain⟨c,rfl⟩:=b;exact⟨-c,by rw[Int.neg_mul]⟩
theorem jf.mono (e:jf b d) (c:a<=b):jf a d:=by obtain⟨g,rfl⟩:=e;obtain⟨f,rfl⟩:=Nat.exists_eq_add_of_le c;exact⟨g*2^f,by rw[aj7,Jv,j3]⟩
def jf.shl (a:X) (b:Z):jf a (b*2^a):=⟨b,bn⟩
section
def Vx {B:X} (c:B=65536) (b:cE k≠2047) (a:a6 k=Y d):jf (B-1074) d:=by rw[xP b] at a;cases a;have e:=HB b;exact(jf.shl _ _).mono aa
section
variable {A:X->X->ah9} {G:ew} {o:aif} {n J:X}
variable {B b:X}
end
end
section
def cS (A e k c:X) (b:ah9):Prop:=∃a,b=Y a/\jf (A-e) a/\a.natAbs<=c*2^(A+k)
section
variable {A e k c B D C:X} {a b:ah9}
theorem cS.rng (h:A=65536) (j:k<=60000) (i:c<1048576) (a:d.natAbs<=c*2^(A+k)):fI d:=by have f:=lv a;have b:aN c<=20:=fU.2 aa;have e:aN (2^(A+k))<=A+k+1:=fU.2 (PJ _ _ aa);have g:=yQ b e;grind [fI]
theorem cS.mono (b:cS A e k c a) (i:e<=B) (j:k<=D) (g:c<=C):cS A B D C a:=by obtain⟨h,rfl,d,f⟩:=b;exact⟨h,bn,d.mono aa,ez f (mO g (PI _ _ aa))⟩
theorem cS.zero:cS A e k c (Y 0):=⟨0,bn,jf.zero _,da _⟩
def cS.neg (b:cS A e k c a):cS A e k c (c9 a):=by obtain⟨f,rfl,d,g⟩:=b;exact⟨-f,bn,d.neg,aa⟩
theorem cS.add (m:A=65536) (o:k<=60000) (j:cS A e k c a) (h:cS A e k C b) (n:c+C<1048576):cS A e k (c+C) (cK a b)/\cK a b=Y (a.getD 0+b.getD 0):=by obtain⟨d,rfl,l,q⟩:=j;obtain⟨f,rfl,i,p⟩:=h;have g:(d+f).natAbs<=(c+C)*2^(A+k):=(by grind);have e:cK (Y d) (Y f)=Y (d+f):=(by show pR (d+f)=_;unfold pR;rw[au (cS.rng m o n g)]);exact⟨⟨_,e,l.add i,g⟩,e⟩
theorem cS.mul (q:A=65536) (o:cS A e k c a) (m:cS A B D C b) (v:e+B<=60000) (s:k+D<=60000) (r:c*C<1048576):cS A (e+B) (k+D) (c*C) (cT a b)/\∃d f l,a=Y d/\b=Y f/\cT a b=Y l/\l*2^A=d*f:=by obtain⟨d,rfl,⟨g,t⟩,p⟩:=o;obtain⟨f,rfl,⟨h,u⟩,n⟩:=m;have aq:g*h*2^(A-(e+B))*2^A=d*f:=(by rw[t,u,j3 (g*h),<-Jv,(aa:A-(e+B)+A=(A-e)+(A-B)),Jv];grind);have i:(g*h*2^(A-(e+B))).natAbs<=c*C*2^(A+(k+D)):=(by refine Nat.le_of_mul_le_mul_right (c:=2^A) ?_ (jx A);rw[<-mv,aq,ajY];refine ez (mO p n) (Nat.le_of_eq ?_);grind);have j:cT (Y d) (Y f)=Y (g*h*2^(A-(e+B))):=(by refine Oq ?_ (cS.rng q s r i);grind);exact⟨⟨_,j,jf.shl _ _,i⟩,d,f,_,bn,bn,j,aq⟩
def cS.rk (c:A=65536) {f:Z} (a:cE f≠2047):cS A 1074 1024 1 (a6 f):=by obtain⟨e,b⟩:=EL a;refine⟨e,b,Vx c a b,?_⟩;rw[xP a] at b;obtain rfl:=gC b;have g:=HB a;have d:(nJ f).natAbs<2^53:=fU.1 (Ol f);rw[mv,ng];refine ez (jj _ (Nat.le_of_lt d)) ?_;rw[<-kn];exact PI _ _ aa
end
end
section
def h1 (a c b:Z):ah9:=cT (cT (a6 a) (a6 c)) (a6 b)
section
variable {A c:X}
def cS.h1 (a:A=65536) {b d c:Z} (e:cE b≠2047) (g:cE d≠2047) (f:cE c≠2047):cS A 3222 3072 1 (h1 b d c):=
 (cS.mul a (cS.mul a (cS.rk a e) (cS.rk a g) ab ab ab).1 (cS.rk a f) ab ab ab).1
def cS.sub (g:A=65536) {a:ah9} (d:cS A 3222 3072 c O) (b:cS A 3222 3072 1 a) (h:c+1<1048576):cS A 3222 3072 (c+1) (cK O (c9 a))/\cK O (c9 a)=Y (O.getD 0-a.getD 0):=by obtain⟨e,f⟩:=cS.add g ab d b.neg h;refine⟨e,f.trans ?_⟩;obtain⟨i,rfl,_⟩:=b;rfl
def cS.adw (a:A=65536) {f b d e:ah9} (g:cS A 3222 3072 c f) (h:cS A 3222 3072 1 O) (i:cS A 3222 3072 1 b) (j:cS A 3222 3072 1 d) (k:cS A 3222 3072 1 e) (D:c+4<1048576):cK (cK (cK (cK f (c9 O)) (c9 b)) (c9 d)) (c9 e)=cK f (c9 (cK (cK (cK O b) d) e))/\cS A 3222 3072 (c+4) (cK f (c9 (cK (cK (cK O b) d) e))):=by obtain⟨m,p⟩:=cS.sub a g h aa;obtain⟨n,q⟩:=cS.sub a m i aa;obtain⟨o,r⟩:=cS.sub a n j aa;obtain⟨C,s⟩:=cS.sub a o k aa;obtain⟨t,x⟩:=cS.add a ab h i ab;obtain⟨u,y⟩:=cS.add a ab t j ab;obtain⟨v,z⟩:=cS.add a ab u k ab;obtain⟨w,B⟩:=cS.add a ab g v.neg aa;refine⟨?_,w⟩;rw[s,B,r,q,p,z,y,x];obtain⟨l,rfl,_⟩:=g;show Y (l-O.getD 0-b.getD 0-d.getD 0-e.getD 0)=Y (l+-(O.getD 0+b.getD 0+d.getD 0+e.getD 0));congr 1;omega
end
structure aV where
 rows:aie
 full:X
 s:X->X->ah9
def aV.bh (c:aV) (a b:X):Z:=k5 (c.s a b) 0
def aV.av (c:aV) (a b:X):Z:=((a6 (c.bh a b)).getD 0).natAbs
def aV.fin (a:aV) (c:X):Prop:=∀b∈a.rows,cE (a.bh b c)≠2047
instance(b:aV) (a:X):aiU (b.fin a):=ano ..
def e8 (b:X->Z) (c:X):aie->Z×aia->Z×aia
 |[],a=>a
 |i::d,a=>e8 b c d (if i=c then a else if a.2=bo\/a.1<b i then(b i,Y i) else a)
def aV.fg (b:aV) (a:X):Z×aia:=e8 (λc=>b.av c a) a b.rows (0,bo)
def aV.gL (a:aV):aie->bv aie
 |[]=>Y []
 |p::c=>if¬a.fin p then bo else
  if(a.fg p).1=0\/41*(a.fg p).1<=64*a.av p p then Y [p] else
  match(a.fg p).2 with
  |none=>Y [p]
  |some b=>if b∉a.rows.take a.full then a.gL c else if¬a.fin b then bo else
   if 41*((a.fg p).1*(a.fg p).1)<=64*(a.av p p*(a.fg b).1) then Y [p] else
   if 41*(a.fg b).1<=64*a.av b b then Y [b] else Y [p,b]
def aV.choose (a:aV):bv aie:=a.gL (a.rows.take a.full)
structure a8 where
 cF:aie
 d:aif
 rows:aie
 l:bm (X->Z)
def kR (a:aif):ah9:=cK (cT (a6 (a.getD 0 0)) (a6 (a.getD 2 0))) (c9 (cT (a6 (a.getD 1 0)) (a6 (a.getD 1 0))))
def aV.gD (a:aV):aie->aif
 |[p]=>[a.bh p p]
 |[p,r]=>[a.bh p p,a.bh r p,a.bh r r]
 |_=>[]
def aV.lc (a:aV):aie->bm (X->Z)
 |[p]=>[λb=>if k1 (a.bh p p)=0 then 0 else gm (a.s b p) (a6 (a.bh p p)) 0]
 |[p,r]=>[λb=>gm (cK (cT (a.s b p) (a6 (a.bh r r))) (c9 (cT (a.s b r) (a6 (a.bh r p))))) (kR (a.gD [p,r])) 0,λb=>gm (cK (cT (a.s b r) (a6 (a.bh p p))) (c9 (cT (a.s b p) (a6 (a.bh r p))))) (kR (a.gD [p,r])) 0]
 |_=>[]
def nA (e:aif) (f:bm (X->Z)) (b d:X):ah9:=match e,f with
 |[d0],[a]=>h1 (a b) d0 (a d)
 |[d0,d1,d2],[a,c]=>cK (cK (cK (h1 (a b) d0 (a d)) (h1 (a b) d1 (c d))) (h1 (c b) d1 (a d))) (h1 (c b) d2 (c d))
 |_,_=>Y 0
def aV.elim (a:aV) (c:aie):aV:=⟨a.rows.filter λb=>br (b∉c),a.full-c.length,λb d=>cK (a.s b d) (c9 (nA (a.gD c) (a.lc c) b d))⟩
def aV.eM (b:aV) (a:aie):a8:=⟨a,b.gD a,b.rows.filter λc=>br (c∉a),b.lc a⟩
def a8.fin (a:a8):Prop:=∀b∈a.l,∀c∈a.rows,cE (b c)≠2047
instance(a:a8):aiU a.fin:=ano ..
def aV.run:X->aV->bv (aV×bm a8)
 |0,a=>Y (a,[])
 |n+1,a=>match a.choose with
  |none=>bo
  |some []=>Y (a,[])
  |some b=>if(a.eM b).fin then(aV.run n (a.elim b)).map λc=>(c.1,a.eM b::c.2) else bo
end
def fP (a:aV):dg:=(a5 a.rows,(a.full:Z),a.rows.map (λb=>a.rows.map λc=>ay (a.s b c)),())
def aV.okd (a:aV):Prop:=∀b∈a.rows,∀c∈a.rows,cM (a.s b c)
def Fj (a:cM O):uK (ay O,())=Y (k5 O 0,()):=by unfold uK;exact ai (JI a) rfl
def aV.Gr (c:aV) (d:cE (c.bh a b)≠2047):pL (a6 (c.bh a b))=Y (c.av a b):=by obtain⟨f,e⟩:=EL d;unfold aV.av;rw[e];rfl
theorem L9 {c:aV} (k:c.okd) (o:c.rows.length<=1000) (j:c.rows[b]?=Y a):zT (fP c,(b:Z),())=Y (if c.fin a then(c.rows.map (λd=>ay (Y (c.av d a))),bp,()) else([],bq,())):=by
 have aq:al (fP c).1=(c.rows.length:Z):=(by rw[bf];exact b4 _ (fH _));unfold zT;refine bQ.1 ?_;refine bD (P:=λl=>l=if c.fin a then .inl (c.rows.map (λd=>ay (Y (c.av d a))),()) else .inr ([],bq,())) ?_ ?_
 ·refine bL c.rows.length (λd m=>m=((d:Z),(c.rows.take d).map (λd=>ay (Y (c.av d a))),())/\∀f∈c.rows.take d,cE (c.bh f a)≠2047) ⟨bn,ac⟩ ?_ ?_
  ·rintro d _ g ⟨rfl,h⟩;dsimp only;rw[aq,aY (aL (aa:(d:Z)<(c.rows.length:Z))),bi aa];refine bz (y:=c.rows.map λf=>ay (c.s c.rows[d] f)) ?_ ?_
   ·rw[ff];show(c.rows.map _)[d]?=_;grind
   refine bz (y:=ay (c.s c.rows[d] a)) ?_ ?_
   ·grind [ff]
   refine bz (Fj (k _ (b7 g) _ (aiw j))) ?_;refine bz (A2 (A5 _ _)) ?_;dsimp only;by_cases e:cE (c.bh c.rows[d] a)=2047
   ·rw[aY (by show(!(!br (cE (c.bh c.rows[d] a)=2047)))=bp;grind)];refine bu.2 ?_;rw[az λi=>i _ (cR g) e]
   rw[a1 (by show(!(!br (cE (c.bh c.rows[d] a)=2047)))=bq;grind)];refine bz (kG (A5 _ _)) (bz (P7 (gA _)) ?_);dsimp only;rw[dc (by grind),bM];refine bu.2 ⟨?_,λf n=>?_⟩
   ·rw[hx,ba g,ji];rw[show pL (a6 (k5 (c.s c.rows[d] a) 0))=Y (c.av c.rows[d] a) from c.Gr e];rfl
   grind [cr,bS,aik]
  rintro _ ⟨rfl,h⟩;dsimp only;rw[aq,a1 (aI (aa:¬(c.rows.length:Z)<(c.rows.length:Z))),cA] at*;refine bu.2 ?_;rw[cb (show c.fin a from h)]
 rintro _ rfl;by_cases e:c.fin a
 ·rw[au e,au e];grind [bu]
 rw[az e,az e];grind [bu]
theorem NP (a:fI d) (b:fI k):zP (ay (Y d),ay (Y k),())=Y (br (d<k),()):=by
 unfold zP;refine ai (ace a b) ?_;show Y (br (fE d k<0),())=_;unfold fE;by_cases c:d<k
 ·simp_all
 grind
theorem Nu {n:Z} (c:n.natAbs<1024) (d:a=65536):jq n=Y (n*2^a):=by
 have e:aN n.natAbs<=10:=fU.2 aa;unfold jq;rw[EA (v:=n*2^a) ab (by rw[(aa:((0:Z)+65536).toNat=a)])];unfold pR;rw[au];unfold fI;rw[mv];rcases pB n.natAbs with b|b
 ·grind
 grind [sl]
theorem EF (b:d.natAbs<1024) (e:fI (d*k)):cT (jq d) (Y k)=Y (d*k):=by obtain⟨a,c⟩:∃a:X,a=65536:=⟨_,bn⟩;rw[Nu b c];grind [Int.mul_assoc,aji,Oq]
theorem Ke (c:cM (Y d)) (e:cM (Y k)) (a:fI (64*d)) (b:fI (41*k)):xc (ay (Y d),ay (Y k),())=Y (br (41*k<=64*d),()):=by unfold xc;refine ai (E8 ab ab) (ai (kF (u3 _) c) (ai (E8 ab ab) (ai (kF (u3 _) e) ?_)));rw[EF ab a,EF ab b];refine ai (NP a b) ?_;grind [aI,aL]
theorem xp (d:X->Z) (c:X):∀(a b:aie) (e:Z×aia),e8 d c (a++b) e=e8 d c b (e8 d c a e)
 |[],_,_=>rfl
 |i::a,b,e=>xp d c a b _
def pO:aia->Z
 |none=>-1
 |some a=>a
theorem VZ {vs:aif} (t:∀e∈vs,fI e) (s:vs.length<=1000) (c:X):xb (vs.map (λe=>ay (Y e)),(c:Z),())=Y (ay (Y (e8 (λb=>vs.getD b 0) c (bI vs.length) (0,bo)).1),pO (e8 (λb=>vs.getD b 0) c (bI vs.length) (0,bo)).2,()):=by
 have n:∀a,fI (e8 (λb=>vs.getD b 0) c (bI a) (0,bo)).1:=λa=>by
  induction a with
  |zero=>exact da _
  |succ a q=>
   rw[i7,xp,e8,e8];split
   ·exact q
   split
   ·rcases cQ a vs.length with j|j
    ·grind
    show fI (vs.getD a 0);rw[lR,qE j];exact da _
   omega
 unfold xb;refine bQ.1 ?_;refine bD (P:=λg=>∃h,g=(pO (e8 (λb=>vs.getD b 0) c (bI vs.length) (0,bo)).2,h,ay (Y (e8 (λb=>vs.getD b 0) c (bI vs.length) (0,bo)).1),())) ?_ (by grind [bu]);refine bL vs.length (λa g=>∃h,g=(pO (e8 (λb=>vs.getD b 0) c (bI a) (0,bo)).2,(a:Z),h,ay (Y (e8 (λb=>vs.getD b 0) c (bI a) (0,bo)).1),())) ⟨_,bn⟩ ?_ ?_
 ·rintro a _ r ⟨h,rfl⟩;have o:=n a;have p:e8 (λb=>vs.getD b 0) c (bI (a+1)) (0,bo)=if a=c then e8 (λb=>vs.getD b 0) c (bI a) (0,bo) else if(e8 (λb=>vs.getD b 0) c (bI a) (0,bo)).2=bo\/(e8 (λb=>vs.getD b 0) c (bI a) (0,bo)).1<vs[a] then(vs[a],Y a) else e8 (λb=>vs.getD b 0) c (bI a) (0,bo):=by
   grind [mT,aiI,xp,e8]
  rw[p];generalize e8 (λb=>vs.getD b 0) c (bI a) (0,bo)=l at*;obtain⟨f,d⟩:=l;dsimp only at o|-;rw[aY (aL (show(a:Z)<al (vs.map λe=>ay (Y e)) by grind)),bi aa];have m:ao (vs.map λe=>ay (Y e)) (a:Z)=Y (ay (Y vs[a])):=(by grind [ff,bS]);refine bD (P:=λg=>g=(pO (if a=c then(f,d) else if d=bo\/f<vs[a] then(vs[a],Y a) else(f,d)).2,h,ay (Y (if a=c then(f,d) else if d=bo\/f<vs[a] then(vs[a],Y a) else(f,d)).1),())) ?_ (by grind [bu]);refine bD (P:=λg=>g=(br (a≠c/\(d=bo\/f<vs[a])),h,ay (Y f),())) ?_ ?_
  ·by_cases i:a=c
   ·subst i;rw[a1 (by grind)];grind [aI,bu]
   rw[aY (by grind)];cases d with
   |none=>
    rw[a1 (by rfl)];grind [aL,bu]
   |some d=>
    rw[aY (by show(br ((d:Z)<0)==bq)=bp;grind)];simp_all [cy,bu,bz,NP,cR]
  rintro _ rfl;dsimp only;rw[cO];refine aim (λk=>?_) (λk=>?_)
  ·rw[az k.1,au k.2];exact bz m (bu.2 bn)
  by_cases i:a=c
  ·rw[au i];grind [bu]
  rw[az i,az λj=>k ⟨i,j⟩];grind [bu]
 rintro _ ⟨h,rfl⟩;dsimp only;rw[a1 (aI (show¬(vs.length:Z)<al (vs.map λe=>ay (Y e)) by grind))];grind [bu]
theorem jf.SR (b:jf a d):jf a (d.natAbs:Z):=by
 rcases Int.natAbs_eq d with c|c
 ·grind
 have:=b.neg;grind
def cS.abs (c:cS a h r b (Y d)):cS a h r b (Y (d.natAbs:Z)):=by obtain⟨i,f,e,g⟩:=c;cases f;exact⟨_,bn,jf.SR e,aa⟩
def aV.sj (f:a=65536) (e:aV) (c:cE (e.bh b h)≠2047):cS a 1074 1024 1 (Y (e.av b h)):=by have:=cS.rk f c;obtain⟨g,d⟩:=EL c;rw[d] at this;unfold aV.av;rw[d];exact this.abs
theorem HX {a:X} {e:X->Z} {h:X}:∀{c:aie} {b:Z×aia},(∀i∈c,cS a 1074 1024 1 (Y (e i)))->cS a 1074 1024 1 (Y b.1)->cS a 1074 1024 1 (Y (e8 e h c b).1)
 |[],_,_,d=>d
 |i::c,b,f,d=>by rw[e8];refine HX (λg j=>f g (by grind)) ?_;grind
def aV.Ea (e:a=65536) (c:aV) (d:c.fin b):cS a 1074 1024 1 (Y (c.fg b).1):=HX (λg f=>c.sj e (d g f)) cS.zero
theorem cS.lG (f:a=65536) (c:cS a r h b (Y d)) (i:h<=60000) (g:b<1048576):fI d:=by obtain⟨k,j,_,e⟩:=c;grind [cS.rng]
def cS.ox (g:h=65536) (e:cS h r a b (Y P)) (i:a<=60000) (m:b<=1024) (j:d.natAbs<=100):fI (d*P):=by obtain⟨n,l,_,f⟩:=e;cases l;refine cS.rng (c:=102400) g i ab (k:=a) ?_;rw[ajY];refine ez (mO j f) ?_;rw[<-tT];exact jj _ aa
theorem VY {c:aV} (q:c.rows.Nodup) (p:c.rows[a]?=Y b):∀d,d<=c.rows.length->(e8 (λf=>(c.rows.map λe=>c.av e b).getD f 0) a (bI d) (0,bo)).1=(e8 (λe=>c.av e b) b (c.rows.take d) (0,bo)).1/\(∀g,(e8 (λf=>(c.rows.map λe=>c.av e b).getD f 0) a (bI d) (0,bo)).2=Y g->g<d/\(e8 (λe=>c.av e b) b (c.rows.take d) (0,bo)).2=c.rows[g]?)/\((e8 (λf=>(c.rows.map λe=>c.av e b).getD f 0) a (bI d) (0,bo)).2=bo->(e8 (λe=>c.av e b) b (c.rows.take d) (0,bo)).2=bo):=by
 obtain⟨z,rfl⟩:=hH.1 p;intro d
 induction d with
 |zero=>
  intro _;refine⟨bn,?_,λ_=>rfl⟩;intro g h;cases h
 |succ d t=>
  intro y;obtain⟨j,o,k⟩:=t aa;have r:c.rows.take (d+1)=c.rows.take d++[c.rows[d]]:=(by simp_all);have s:(c.rows.map λe=>c.av e c.rows[a]).getD d 0=c.av c.rows[d] c.rows[a]:=(by grind);have x:c.rows[d]=c.rows[a]↔d=a:=⟨λh=>(ajC q).1 h,λh=>by grind⟩;rw[aiI,xp,r,xp];generalize e8 (λf=>(c.rows.map λe=>c.av e c.rows[a]).getD f 0) a (bI d) (0,bo)=l at*;generalize e8 (λe=>c.av e c.rows[a]) c.rows[a] (c.rows.take d) (0,bo)=m at*;obtain⟨u,i⟩:=l;obtain⟨v,n⟩:=m;dsimp only at j o k;subst j;have A:i=bo↔n=bo:=by
   constructor
   ·exact k
   intro w;cases i with
   |none=>rfl
   |some g=>
    grind
  rw[e8,e8,e8,e8,s];grind
theorem Nf {c:aV} (q:c.rows.length<=1000) (o:c.rows.Nodup) (l:c.rows[b]?=Y a) (m:c.fin a):∃f:aia,xb (c.rows.map (λd=>ay (Y (c.av d a))),(b:Z),())=Y (ay (Y (c.fg a).1),pO f,())/\(∀e,f=Y e->e<c.rows.length/\(c.fg a).2=c.rows[e]?)/\(f=bo->(c.fg a).2=bo):=by
 obtain⟨g,i⟩:∃g:X,g=65536:=⟨_,bn⟩;have h:=VZ (vs:=c.rows.map λd=>c.av d a) (λr p=>by
  obtain⟨d,n,rfl⟩:=eZ.1 p;exact(c.sj i (m d n)).lG i ab ab) (by grind) b
 obtain⟨aw,j,k⟩:=VY o l c.rows.length (bc _);rw[hP] at aw j k;rw[oI,e9,aw] at h;exact⟨_,h,j,k⟩
def qv (a:aV) (d:aie) (e:aif×bA×bt):Prop:=(e=([],bq,())/\a.gL d=bo)\/∃c:aie,e=(a5 c,bp,())/\(∀b∈c,b<a.rows.length)/\a.gL d=Y (c.map λb=>a.rows.getD b 0)
theorem qv.of {a:aV} (c:a.gL e=a.gL n) (b:qv a n z):qv a e z:=by grind [qv]
theorem HY {e:X->Z} {d:X}:∀{c:aie} {a:Z×aia},(e8 e d c a).2=bo->a.2=bo/\(e8 e d c a).1=a.1
 |[],_,b=>⟨b,bn⟩
 |i::c,a,b=>by rw[e8] at b|-;obtain⟨f,g⟩:=HY b;grind
theorem EE {b c e:Z} (f:d*2^a=P*b) (g:k*2^a=c*e):41*d<=64*k↔41*(P*b)<=64*(c*e):=by have h:(0:Z)<2^a:=m9 ab;rw[<-f,<-g,<-j3,<-j3];simp_all
theorem ab5 {a:aV} (J:a.okd) (p:a.rows.length<=1000) (F:a.rows.Nodup) (cs:a.full<=a.rows.length):ae (zS (fP a,())) λh=>qv a (a.rows.take a.full) h:=by
 obtain⟨A,e⟩:∃A:X,A=65536:=⟨_,bn⟩;unfold zS;refine bD (P:=λf=>(f=.inl ()/\a.gL (a.rows.take a.full)=Y [])\/∃h,f=.inr h/\qv a (a.rows.take a.full) h) ?_ ?_
 rotate_left
 ·rintro _ (⟨rfl,k⟩|⟨h,rfl,k⟩)
  ·exact bu.2 (.inr ⟨[],bn,ac,k⟩)
  grind [bu]
 refine bL a.full (λd bx=>bx=((d:Z),())/\a.gL (a.rows.take a.full)=a.gL ((a.rows.take a.full).drop d)) ⟨bn,bn⟩ ?_ ?_
 rotate_left
 ·rintro _ ⟨rfl,k⟩;dsimp only;rw[a1 (aI (show¬(a.full:Z)<(fP a).2.1 from Int.lt_irrefl _))];refine bu.2 (.inl ⟨bn,?_⟩);grind [al2,air,aV.gL]
 rintro d _ dl ⟨rfl,am⟩;dsimp only;have a3:d<a.rows.length:=aa;have t:a.rows[d]?=Y a.rows[d]:=bS a3;have an:(a.rows.take a.full).drop d=a.rows[d]::(a.rows.take a.full).drop (d+1):=(by grind [List.drop_eq_getElem_cons,air]);have c1:a.rows.getD d 0=a.rows[d]:=(by grind);rw[aY (aL (show(d:Z)<(fP a).2.1 by show(d:Z)<(a.full:Z);omega)),bi aa];refine bD (P:=λf=>(f=.inl ()/\a.gL ((a.rows.take a.full).drop d)=a.gL ((a.rows.take a.full).drop (d+1)))\/∃h,f=.inr (.inr (.inr h))/\qv a ((a.rows.take a.full).drop d) h) ?_ ?_
 rotate_left
 ·rintro _ (⟨rfl,k⟩|⟨h,rfl,k⟩)
  ·grind [bu]
  exact bu.2 (.inr ⟨h,bn,k.of am⟩)
 rw[an];generalize(a.rows.take a.full).drop (d+1)=B;generalize a.rows[d]=b at*;refine bz (L9 J p t) ?_;by_cases l:a.fin b
 rotate_left
 ·rw[cn l];dsimp only;rw[aY (by rfl)];refine bu.2 (.inr ⟨_,bn,.inl ⟨bn,?_⟩⟩);rw[aV.gL,cb l]
 rw[cb l];dsimp only;rw[a1 (by rfl)];obtain⟨ce,S,T,U⟩:=Nf p F t l;refine bz S ?_;dsimp only;have q:=a.Ea e l;have V:=aiw t;have v:=a.sj e (l b V);have r:cM (Y (a.fg b).1):=λn g=>(by cases g;exact q.lG e ab ab);have G:cM (Y (a.av b b)):=λn g=>(by cases g;exact v.lG e ab ab);have D:ao (a.rows.map λx=>ay (Y (a.av x b))) (d:Z)=Y (ay (Y (a.av b b))):=(by grind [ff]);refine bD (P:=λf=>f=if(a.fg b).1=0\/41*(a.fg b).1<=64*a.av b b then .inr (.inr (.inr (.inr ([(d:Z)],bp,())))) else .inl (ay (Y (a.fg b).1),())) ?_ ?_
 ·refine bD (P:=λf=>f=(br ((a.fg b).1=0\/41*(a.fg b).1<=64*a.av b b),ay (Y (a.fg b).1),())) ?_ ?_
  ·refine bz (acj r) ?_;dsimp only;by_cases o:(a.fg b).1=0
   ·rw[a1 (by show((gB (a.fg b).1==0)==bq)=bq;grind [iV,aL])];grind [aL,bu]
   rw[aY (by show((gB (a.fg b).1==0)==bq)=bp;grind [iV,aI])];refine bz D (bz (Ke G r (v.ox e ab ab ab) (q.ox e ab ab ab)) ?_);simp_all [cy,bu]
  rintro _ rfl;dsimp only;rw[cO];refine aim (λo=>?_) (λo=>?_)
  ·rw[au o];grind [bu]
  rw[az o];grind [bu]
 rintro _ rfl;by_cases s:(a.fg b).1=0\/41*(a.fg b).1<=64*a.av b b
 ·rw[au s];refine bu.2 (.inr ⟨_,bn,.inr ⟨[d],bn,by grind,?_⟩⟩);simp_all [az,aii,au,r3,aV.gL]
 rw[cn s];dsimp only;cases ce with
 |none=>
  exfalso;exact s (.inl (HY (U bn)).2)
 |some c=>
  obtain⟨a0,c2⟩:=T c bn;have u:a.rows[c]?=Y a.rows[c]:=ba a0;have cv:a.rows.getD c 0=a.rows[c]:=(by grind);have m:a.gL (b::B)=if a.rows[c]∉a.rows.take a.full then a.gL B else if¬a.fin a.rows[c] then bo else
   if 41*((a.fg b).1*(a.fg b).1)<=64*(a.av b b*(a.fg a.rows[c]).1) then Y [b] else
   if 41*(a.fg a.rows[c]).1<=64*a.av a.rows[c] a.rows[c] then Y [a.rows[c]] else Y [b,a.rows[c]]:=by
   simp_all [az,aii,aV.gL]
  have E:a.rows[c]∈a.rows.take a.full↔c<a.full:=(by grind [ajC,aj0]);generalize a.rows[c]=i at*;show ae (bif br ((c:Z)>=(fP a).2.1) then _ else _) _;by_cases C:c<a.full
  rotate_left
  ·rw[aY (aL (show(c:Z)>=(fP a).2.1 by show(a.full:Z)<=(c:Z);omega))];exact bu.2 (.inl ⟨bn,m.trans (au (mt E.1 C))⟩)
  rw[a1 (aI (show¬(c:Z)>=(fP a).2.1 by show¬(a.full:Z)<=(c:Z);omega))];rw[az (aii (E.2 C))] at m;refine bz (L9 J p u) ?_;by_cases j:a.fin i
  rotate_left
  ·rw[cn j];dsimp only;rw[aY (by rfl)];exact bu.2 (.inr ⟨_,bn,.inl ⟨bn,m.trans (cb j)⟩⟩)
  rw[cb j];dsimp only;rw[a1 (by rfl)];rw[cn (aii j)] at m;obtain⟨ds,bl,_,_⟩:=Nf p F u j;refine bz bl ?_;dsimp only;have w:=a.Ea e j;have ad:=aiw u;have H:=a.sj e (j i ad);have I:cM (Y (a.fg i).1):=λn g=>(by cases g;exact w.lG e ab ab);have a4:cM (Y (a.av i i)):=λn g=>(by cases g;exact H.lG e ab ab);have ap:ao (a.rows.map λx=>ay (Y (a.av x i))) (c:Z)=Y (ay (Y (a.av i i))):=(by grind [ff]);obtain⟨y,_,_,ci,aq,O,K,L⟩:=cS.mul e v w ab ab ab;obtain⟨z,_,_,co,Q,R,M,N⟩:=cS.mul e q q ab ab ab;cases aq;cases O;cases Q;cases R;rw[K] at y;rw[M] at z;refine bz D (bz (kF G I) (bz (kF r r) ?_));rw[K,M];refine bz (Ke (λn g=>by cases g;exact y.lG e ab ab) (λn g=>by cases g;exact z.lG e ab ab) (y.ox e ab ab ab) (z.ox e ab ab ab)) ?_;dsimp only;rw[cO];refine aim (λf=>?_) (λf=>?_)
  ·rw[EE N L] at f;refine bu.2 (.inr ⟨_,bn,.inr ⟨[d],bn,by grind,?_⟩⟩);grind
  rw[EE N L] at f;rw[cn f] at m;refine bz ap (bz (Ke a4 I (H.ox e ab ab ab) (w.ox e ab ab ab)) ?_);dsimp only;rw[cO];refine aim (λf=>?_) (λf=>?_)
  ·refine bu.2 (.inr ⟨_,bn,.inr ⟨[c],bn,by grind,?_⟩⟩);grind
  refine bu.2 (.inr ⟨_,bn,.inr ⟨[d,c],bn,by grind,?_⟩⟩);grind
def abR (b:eP k) (a:eP d) (c:eP P):zR ([k,d,P],())=Y (ay (kR [k,d,P]),()):=by unfold zR;refine ai (y:=k) rfl (ai (y:=P) rfl (ai (PV b c) (ai (y:=d) rfl (ai (y:=d) rfl (ai (PV a a) ?_)))));refine ai (E9 (kC _ _) (kC _ _)) rfl
def aV.k4 (c:aV) (a b:X):eP (c.bh a b):=A5 _ _
theorem xg {x:aV} {i k I P:X} (c:x.rows[i]?=Y I) (d:x.rows[k]?=Y P):∃a,ao (fP x).2.2.1 (i:Z)=Y a/\ao a (k:Z)=Y (ay (x.s I P)):=by
 refine⟨x.rows.map λb=>ay (x.s I b),?_,?_⟩
 ·rw[ff];show(x.rows.map _)[i]?=_;grind
 grind [ff]
def aeo {c:aV} (m:c.okd) (e:c.rows[r]?=Y b) (f:c.rows[h]?=Y a) (g:hd) (k:g.2.1=[c.bh a a]):uM (g,fP c,[(h:Z)],(r:Z),())=Y ((c.lc [a]).map (· b),()):=by
 obtain⟨n,i,j⟩:=xg e f;have l:=m b (aiw e) a (aiw f);unfold uM;refine ai i (ai (y:=(h:Z)) rfl (ai j ?_));rw[aY (by rfl)];rw[k];refine ai (y:=c.bh a a) rfl (ai (Wr (c.k4 a a)) ?_);dsimp only;rw[cO];show(if k1 (c.bh a a)=0 then _ else _)=Y ([if k1 (c.bh a a)=0 then 0 else gm (c.s b a) (a6 (c.bh a a)) 0],());by_cases d:k1 (c.bh a a)=0
 ·rw[au d,au d]
 rw[az d,az d];exact ai (y:=c.bh a a) rfl (ai (kG (c.k4 a a)) (ai (Jw l (gA _)) rfl))
def aep {c:aV} (n:c.okd) {o f:X} (d:c.rows[o]?=Y h) (i:c.rows[f]?=Y a) (j:c.rows[r]?=Y b) (g:hd) (e:g.2.1=c.gD [a,b]):uM (g,fP c,[(f:Z),(r:Z)],(o:Z),())=Y ((c.lc [a,b]).map (· h),()):=by obtain⟨u,p,q⟩:=xg d i;obtain⟨v,s,t⟩:=xg d j;have l:=n h (i6 d) a (i6 i);have m:=n h (i6 d) b (i6 j);have e:g.2.1=[c.bh a a,c.bh b a,c.bh b b]:=e;unfold uM;refine ai p (ai (y:=(f:Z)) rfl (ai q ?_));rw[a1 (by rfl)];rw[e];refine ai s (ai (y:=(r:Z)) rfl (ai t ?_));refine ai (y:=c.bh a a) rfl (ai (kG (c.k4 _ _)) (ai (y:=c.bh b a) rfl (ai (kG (c.k4 _ _)) (ai (y:=c.bh b b) rfl (ai (kG (c.k4 _ _)) ?_)))));refine ai (kF l (gA _)) (ai (kF m (gA _)) (ai (E9 (kC _ _) (kC _ _)) ?_));refine ai (kF m (gA _)) (ai (kF l (gA _)) (ai (E9 (kC _ _) (kC _ _)) ?_));have k:=abR (c.k4 a a) (c.k4 b a) (c.k4 b b);refine ai k (ai (Jw (kQ _ _) (kQ _ _)) (ai k (ai (Jw (kQ _ _) (kQ _ _)) rfl)))
def Vz {e:hd} (h:al e.1=1) (m:e.2.2.2.1=[c]) (l:e.2.1=[P]) (i:c[a]?=Y d) (j:c[b]?=Y k) (n:eP d) (o:eP k) (p:eP P):uL (e,(a:Z),(b:Z),())=Y (ay (h1 d P k),()):=by have f:ao c (a:Z)=Y d:=(by rw[ff,i]);have g:ao c (b:Z)=Y k:=(by rw[ff,j]);unfold uL;dsimp only;rw[m,l,h];refine ai (y:=c) rfl (ai f (ai (kG n) (ai (y:=c) rfl (ai g (ai (kG o) (ai (y:=P) rfl (ai (kG p) (ai (kF (gA _) (gA _)) (ai (kF (kC _ _) (gA _)) ?_)))))))));rw[a1 (by rfl)];rfl
def VA {i:hd} {j g l h:Z} (q:al i.1=2) (w:i.2.2.2.1=[c,f]) (u:i.2.1=[j,g,l]) (r:c[a]?=Y d) (s:c[b]?=Y k) (t:f[a]?=Y P) (v:f[b]?=Y h) (z:eP d) (A:eP k) (B:eP P) (F:eP h) (C:eP j) (D:eP g) (E:eP l):uL (i,(a:Z),(b:Z),())=Y (ay (cK (cK (cK (h1 d j k) (h1 d g h)) (h1 P g k)) (h1 P l h)),()):=by have m:ao c (a:Z)=Y d:=(by rw[ff,r]);have n:ao c (b:Z)=Y k:=(by rw[ff,s]);have o:ao f (a:Z)=Y P:=(by rw[ff,t]);have p:ao f (b:Z)=Y h:=(by rw[ff,v]);have e:=λ(x i:ah9)=>kC x i;unfold uL;dsimp only;rw[w,u,q];refine ai (y:=c) rfl (ai m (ai (kG z) (ai (y:=c) rfl (ai n (ai (kG A) (ai (y:=j) rfl (ai (kG C) (ai (kF (gA _) (gA _)) (ai (kF (e _ _) (gA _)) ?_)))))))));rw[aY (by rfl)];refine ai (y:=((bq,((bq,(([]:aif),())),((0:Z),()))),ay (cK (cK (cK (h1 d j k) (h1 d g h)) (h1 P g k)) (h1 P l h)),())) ?_ bn;refine ai (y:=f) rfl (ai o (ai (kG B) (ai (y:=f) rfl (ai p (ai (kG F) (ai (y:=g) rfl (ai (kG D) (ai (y:=l) rfl (ai (kG E) ?_)))))))));refine ai (kF (gA _) (gA _)) (ai (kF (e _ _) (gA _)) (ai (AX (e _ _) (e _ _)) ?_));refine ai (kF (gA _) (gA _)) (ai (kF (e _ _) (gA _)) (ai (AX (kQ _ _) (e _ _)) ?_));refine ai (kF (gA _) (gA _)) (ai (kF (e _ _) (gA _)) (ai (AX (kQ _ _) (e _ _)) rfl))
theorem AN {l:aie} (o:l.length<=1000) (a:X):∃e:Z,q7 (a5 l,(a:Z),())=Y (e,())/\(a∈l->∃b:X,e=b/\l[b]?=Y a)/\(a∉l->e=-1):=by
 suffices h:ae (q7 (a5 l,(a:Z),())) λd=>(a∈l->∃b:X,d.1=b/\l[b]?=Y a)/\(a∉l->d.1=-1) by obtain⟨⟨e,_⟩,k,m⟩:=h;grind
 have aq:al (a5 l)=(l.length:Z):=(by rw[bf,fH]);unfold q7;refine bD (P:=λd=>(d=.inl ()/\a∉l)\/∃b:X,d=.inr ((b:Z),())/\l[b]?=Y a) ?_ ?_
 ·refine bL l.length (λc i=>i=((c:Z),())/\a∉l.take c) ⟨bn,ac⟩ ?_ ?_
  ·rintro c _ n ⟨rfl,f⟩;dsimp only;rw[aq,aY (aL (aa:(c:Z)<(l.length:Z))),bi aa];refine bz (y:=(l[c]:Z)) ?_ ?_
   ·rw[ff];show(l.map λ(j:X)=>(j:Z))[c]?=_;grind
   rw[gK,cO];refine aim (λg=>?_) (λg=>?_)
   ·grind [bS,bu]
   grind [bu,cr,bS,aik]
  rintro _ ⟨rfl,f⟩;dsimp only;rw[cA] at f;rw[aq,a1 (aI (aa:¬(l.length:Z)<(l.length:Z)))];grind [bu]
 grind [bu,aiw]
def fY (d:aV) (c:aie) (b:X):aie:=((bI b).filter λa=>br (a∉c)).map λa=>d.rows.getD a 0
theorem JM (b:aV) (c:a∈e):fY b e (a+1)=fY b e a:=by grind [aiI,fY]
theorem JN (b:aV) (c:a∉e):fY b e (a+1)=fY b e a++[b.rows.getD a 0]:=by grind [aiI,fY]
theorem Fk (c:aV) (b:aie) (a:X):(fY c b a).length<=a:=by grind [cu,aiH,cg,fY]
def kh (a:aV) (b:aie) (c:X):dg:=(a5 (fY a b c),ax ((a.full:Z)-(b.length:Z)),(fY a b c).map (λd=>(fY a b a.rows.length).map λe=>ay (a.s d e)),())
theorem aey {a:aV} (C:a.rows.length<=1000) (l:e.length<=1000):DC (fP a,a5 e,())=Y (kh a e a.rows.length,()):=by
 have aq:al (fP a).1=(a.rows.length:Z):=(by rw[bf];exact b4 _ (fH _));have m:al (a5 e)=(e.length:Z):=(by rw[bf,fH]);have q:∀b,b<a.rows.length->ao (fP a).1 (b:Z)=Y ((a.rows.getD b 0:X):Z):=λb j=>(by rw[ff];show(a.rows.map λ(a:X)=>(a:Z))[b]?=_;grind);unfold DC;refine bQ.1 ?_;dsimp only;rw[m];refine bD (P:=λf=>∃c,f=(c,kh a e a.rows.length,())) ?_ (by grind [bu]);refine bL a.rows.length (λb f=>∃c,f=((b:Z),c,kh a e b,())) ⟨_,bn⟩ ?_ ?_
 rotate_left
 ·rintro _ ⟨c,rfl⟩;dsimp only;rw[aq,a1 (aI (aa:¬(a.rows.length:Z)<(a.rows.length:Z)))];grind [bu]
 rintro b _ j ⟨c,rfl⟩;dsimp only;rw[aq,aY (aL (aa:(b:Z)<(a.rows.length:Z))),bi aa];refine bD (P:=λf=>∃c,f=(c,kh a e (b+1),())) ?_ (by grind [bu]);obtain⟨y,o,p,A⟩:=AN l b;refine bz o ?_;dsimp only;have D:=Fk a e b;by_cases h:b∈e
 ·obtain⟨d,rfl,_⟩:=p h;rw[aY (aL (aa:(d:Z)>=0))];grind [JM,bu,kh]
 rw[a1 (aI (show¬y>=0 by grind))];refine bz (q b j) ?_;have E:(a5 (fY a e b)).length=(fY a e b).length:=fH _;rw[dc (by show(a5 (fY a e b)).length+1<=_;omega),aD];refine bD (P:=λf=>∃c,f=(c,((kh a e b).1++[((a.rows.getD b 0:X):Z)],(kh a e b).2),(fY a e a.rows.length).map (λg=>ay (a.s (a.rows.getD b 0) g)),())) ?_ ?_
 ·refine bL a.rows.length (λd f=>∃c,f=((d:Z),c,((kh a e b).1++[((a.rows.getD b 0:X):Z)],(kh a e b).2),(fY a e d).map (λg=>ay (a.s (a.rows.getD b 0) g)),())) ⟨c,bn⟩ ?_ ?_
  ·rintro d _ B ⟨c,rfl⟩;dsimp only;rw[aY (aL (aa:(d:Z)<(a.rows.length:Z))),bi aa];refine bD (P:=λf=>∃c,f=(c,((kh a e b).1++[((a.rows.getD b 0:X):Z)],(kh a e b).2),(fY a e (d+1)).map (λg=>ay (a.s (a.rows.getD b 0) g)),())) ?_ (by grind [bu]);obtain⟨z,r,t,G⟩:=AN l d;refine bz r ?_;dsimp only;by_cases n:d∈e
   ·obtain⟨u,rfl,_⟩:=t n;rw[a1 (aI (aa:¬(u:Z)<0))];grind [JM,bu]
   rw[aY (aL (show z<0 by grind))];obtain⟨H,v,w⟩:=xg (x:=a) (i:=b) (k:=d) (I:=a.rows.getD b 0) (P:=a.rows.getD d 0) (by grind) (by grind);have:=Fk a e d;refine bz v (bz w ?_);rw[dc (by grind),aD];grind [JN,bu]
  rintro _ ⟨c,rfl⟩;dsimp only;rw[a1 (aI (aa:¬(a.rows.length:Z)<(a.rows.length:Z)))];grind [bu]
 rintro _ ⟨c,rfl⟩;dsimp only;have F:(kh a e b).2.2.1.length=(fY a e b).length:=cg ..;rw[dc (by grind),bM];refine bu.2 ⟨c,?_⟩;unfold kh;rw[JN a h,oq,ak9];rfl
structure me (x:aV) (l P:aie):Prop where
 jv:(∃k a,l=[k]/\P=[a]/\x.rows[k]?=Y a)\/∃k j a b,l=[k,j]/\P=[a,b]/\x.rows[k]?=Y a/\x.rows[j]?=Y b
theorem me.len {a:aV} (c:me a e n):e.length=n.length/\e.length<=2/\0<e.length/\(a.lc n).length=e.length:=by rcases c.jv with⟨d,b,rfl,rfl,_⟩|⟨d,g,b,f,rfl,rfl,_⟩<;>exact⟨bn,ac,ac,bn⟩
theorem me.get {d:aV} (f:me d e n) (j:a<e.length):∃c b,e[a]?=Y c/\n[a]?=Y b/\d.rows[c]?=Y b:=by
 rcases f.jv with⟨c,b,rfl,rfl,g⟩|⟨c,k,b,h,rfl,rfl,g,i⟩
 ·grind
 grind
def me.aen {c:aV} (k:me c n e) (i:c.okd) (g:c.rows[b]?=Y a) (d:hd) (h:d.2.1=c.gD e):uM (d,fP c,a5 n,(b:Z),())=Y ((c.lc e).map (· a),()):=by
 rcases k.jv with⟨m,j,rfl,rfl,f⟩|⟨m,p,j,o,rfl,rfl,f,l⟩
 ·exact aeo i g f d h
 exact aep i g f l d h
theorem NH (e:aV) (d:aie):∀c∈e.lc d,∀b,eP (c b):=by
 intro c a b;unfold aV.lc at a;split at a
 ·obtain rfl:=aik.1 a;dsimp only;split
  ·exact⟨ab,ab⟩
  exact AS 0
 ·simp only[fR,List.not_mem_nil,or_false] at a;rcases a with rfl|rfl
  ·exact AS 0
  exact AS 0
 grind
def hK (a:aV) (e b:aie) (d:X):ew:=(a.lc b).map λc=>(fY a e d).map c
theorem me.form {a:aV} (j:me a e n) {q:hd} (f:al q.1=(e.length:Z)) (h:q.2.2.2.1=hK a e n a.rows.length) (g:q.2.1=a.gD n) {i m I M:X} (r:(fY a e a.rows.length)[i]?=Y I) (s:(fY a e a.rows.length)[m]?=Y M):uL (q,(i:Z),(m:Z),())=Y (ay (nA (a.gD n) (a.lc n) I M),()):=by
 have d:=NH a n;have c:∀b:X->Z,((fY a e a.rows.length).map b)[i]?=Y (b I)/\((fY a e a.rows.length).map b)[m]?=Y (b M):=λb=>⟨by grind,by grind⟩;rcases j.jv with⟨l,b,rfl,rfl,k⟩|⟨l,t,b,o,rfl,rfl,k,p⟩
 ·exact Vz f h g (c _).1 (c _).2 (d _ (gp.2 bn) I) (d _ (gp.2 bn) M) (a.k4 _ _)
 exact VA f h g (c _).1 (c _).2 (c _).1 (c _).2 (d _ (nc ..) I) (d _ (nc ..) M) (d _ (hW _ (gp.2 bn)) I) (d _ (hW _ (gp.2 bn)) M) (a.k4 _ _) (a.k4 _ _) (a.k4 _ _)
theorem ac0 {b a:bm j} (g:b.length=a.length) {k:X} (f:k<a.length) {c:j} (h:b[k]?=Y c):(b.take k++a.drop k).set k c=b.take (k+1)++a.drop (k+1):=by have d:(b.take k).length=k:=(by grind);have e:a.drop k=a[k]::a.drop (k+1):=v8 f;rw[List.set_append,az aa,d,oJ,e];grind [cr,aiQ]
theorem Xz {b a:bm j} (c:b.length=a.length) {k:X} (d:k<a.length):(b.take k++a.drop k)[k]?=Y a[k]:=by grind
theorem WO (b:aV) (a:aie):(b.lc a).length<=2:=by unfold aV.lc;grind
theorem Vo {b:aV} {d:aie} (ap:a<b.rows.length) (av:b.rows.length<=1000) (am:a∉d) {t:dg} {u:hd} {v:dg} {p q s:aA}:ae (loop (σ:=qO) (ρ:=(nl⊕(nl⊕(qO⊕(nl⊕(dg×hd×bA×bt)))))) (λ(j,D,E,w,f,_)=>
 bif br (j<al ((b.lc e).map (· (b.rows.getD a 0)))) then
 (ao ((b.lc e).map (· (b.rows.getD a 0))) j).bind λR=>
 (q3 (R,())).bind λ(N,_)=>
  bif !N then
 Y (.inr (.inr (.inr (.inr (.inr (w,f,bq,())))))) else
 (bj (f.2.2.2.1).length j).bind λC=>
 (ao ((b.lc e).map (· (b.rows.getD a 0))) j).bind λF=>
 (a9 f.2.2.2.1 C λG=>Y G).bind λO=>
 (cC (O.length+([F]).length)).bind λ_=>
 (bj (f.2.2.2.1).length j).bind λo=>
  bif bH C o&&bp then
 (a9 f.2.2.2.1 o λH=>Y H).bind λP=>
 (((((a9 f.2.2.2.1 o λ_=>Y ((f.2.2.2.1).set o (P++[F]))).map λS=>(S,f.2.2.2.2)).map λT=>(f.2.2.1,T)).map λU=>(f.2.1,U)).map λV=>(f.1,V)).bind λad=>
 Y (.inl (aP j,D,E,w,ad,())) else bo else
 Y (.inr (.inl (D,E,w,f,())))) (0,t,u,v,(p,q,s,hK b d e a,()),())) λl=>
  ((∀h∈b.lc e,cE (h (b.rows.getD a 0))≠2047)/\l=.inl (t,u,v,(p,q,s,hK b d e (a+1),()),()))\/((∃h∈b.lc e,cE (h (b.rows.getD a 0))=2047)/\∃Q M,l=.inr (.inr (.inr (.inr (Q,M,bq,()))))):=by
 have a0:=WO b e;generalize an:b.rows.getD a 0=g;have bl:hK b d e (a+1)=(b.lc e).map λh=>(fY b d a).map h++[h g]:=(by grind [aiy,JN,hK]);have A:(hK b d e (a+1)).length=(hK b d e a).length:=(by grind [cg,hK]);have a3:(hK b d e a).length=(b.lc e).length:=(by grind);refine bL (b.lc e).length (λc l=>l=((c:Z),t,u,v,(p,q,s,(hK b d e (a+1)).take c++(hK b d e a).drop c,()),())/\∀h∈(b.lc e).take c,cE (h g)≠2047) ⟨ac,ac⟩ ?_ ?_
 ·rintro c _ z ⟨rfl,I⟩;dsimp only;rw[aY (aL (show(c:Z)<al ((b.lc e).map (· g)) by grind))];have x:ao ((b.lc e).map (· g)) (c:Z)=Y ((b.lc e)[c] g):=by
   grind [ff,bS]
  have J:=b7 z;refine bz x (bz (A2 (NH b e _ J g)) ?_);dsimp only;by_cases l:cE ((b.lc e)[c] g)=2047
  ·rw[aY (by grind)];grind [bu]
  rw[a1 (by grind)];have a4:((hK b d e (a+1)).take c++(hK b d e a).drop c).length=(b.lc e).length:=(by grind);have r:=Xz A (k:=c) aa;have B:(hK b d e a)[c]'(by omega)=(fY b d a).map (b.lc e)[c]:=by grind [hK]
  have y:=eU (n:=((hK b d e (a+1)).take c++(hK b d e a).drop c).length) (i:=c) aa;have bx:=Fk b d a;refine bz y (bz x ?_);rw[gj r,aD,B];rw[dc (by grind),aD];refine bz y ?_;rw[aY ac,gj r,aD,B,gj r];have L:(hK b d e (a+1))[c]?=Y ((fY b d a).map (b.lc e)[c]++[(b.lc e)[c] g]):=(by grind);have K:=ac0 A (k:=c) aa L;rw[K,bi aa];refine bu.2 ⟨bn,λh m=>?_⟩;rw[hx,ba z] at m;rcases h9.1 m with m|m
  ·grind
  simp_all
 rintro _ ⟨rfl,I⟩;dsimp only;rw[a1 (aI (show¬((b.lc e).length:Z)<al ((b.lc e).map (· g)) by grind))];grind [ch,al2,bu,cA]
def k8 (d:aV) (e a:aie) (f g:X):bm (bm fX):=aB a.length λb=>aB a.length λc=>
 if b<f\/(b=f/\c<g) then ay (cK (d.s (a.getD b 0) (a.getD c 0)) (c9 (nA (d.gD e) (d.lc e) (a.getD b 0) (a.getD c 0)))) else ay (d.s (a.getD b 0) (a.getD c 0))
theorem Ew (a:aie) (b:X->j):a.map b=aB a.length λc=>b (a.getD c 0):=by grind [bS,lz,cg,List.ext_getElem,cX]
theorem aec (d:aV) (e a:aie):k8 d e a 0 0=a.map λb=>a.map λc=>ay (d.s b c):=by unfold k8;rw[Ew a (λb=>a.map λc=>ay (d.s b c))];simp_all [az,db,Ew]
theorem aea (d:aV) (b a:aie) (c:X):k8 d b a c a.length=k8 d b a (c+1) 0:=by unfold k8;refine db λg e=>db λh f=>?_;grind
theorem ad9 (a:aV) (c b:aie):k8 a c b b.length 0=b.map λd=>b.map λe=>ay (cK (a.s d e) (c9 (nA (a.gD c) (a.lc c) d e))):=by unfold k8;rw[Ew b (λd=>b.map λe=>ay (cK (a.s d e) (c9 (nA (a.gD c) (a.lc c) d e))))];refine db λg f=>?_;simp_all [au,db,Ew]
theorem aeb (d:aV) (e c:aie) (i:a<c.length) (j:b<c.length):∃f,(k8 d e c a b)[a]?=Y f/\f.length=c.length/\f[b]?=Y (ay (d.s (c.getD a 0) (c.getD b 0)))/\(k8 d e c a b).set a (f.set b (ay (cK (d.s (c.getD a 0) (c.getD b 0)) (c9 (nA (d.gD e) (d.lc e) (c.getD a 0) (c.getD b 0))))))=k8 d e c a (b+1):=by
 refine⟨_,jn i,cX _ _,?_,?_⟩
 ·rw[jn j,az aa]
 unfold k8;rw[hB,hB];refine db λk m=>?_;by_cases g:k=a
 ·subst g;rw[gH];refine db λl n=>?_;by_cases h:l=b
  ·simp_all [gH,au]
  rw[hb _ _ h];grind
 simp_all [hb,db,au,az]
def Hs (a:aV) (b c:aie):dg×hd×bA×bt:=
 ((
  a5 (fY a b a.rows.length),ax ((a.full:Z)-(b.length:Z)),(fY a b a.rows.length).map (λd=>(fY a b a.rows.length).map λe=>ay (cK (a.s d e) (c9 (nA (a.gD c) (a.lc c) d e)))),()),
  (a5 c,a.gD c,a5 (fY a b a.rows.length),hK a b c a.rows.length,()),bp,())
theorem acr {a:aV} (N:a.okd) (an:a.rows.length<=1000) {b:aie} (w:me a e b):ae (xa (fP a,a5 e,())) λE=>
  (((∀d∈a.lc b,∀i,i<a.rows.length->i∉e->cE (d (a.rows.getD i 0))≠2047)/\E=Hs a e b)\/((∃d∈a.lc b,∃i,i<a.rows.length/\i∉e/\cE (d (a.rows.getD i 0))=2047)/\E.2.2.1=bq)):=by
 obtain⟨fp,fn,cv,c1⟩:=w.len;have aq:al (fP a).1=(a.rows.length:Z):=(by rw[bf];exact b4 _ (fH _));have F:al (a5 e)=(e.length:Z):=(by rw[bf,fH]);have dl:∀f d:X,a.rows[f]?=Y d->ao (fP a).1 (f:Z)=Y (d:Z):=λf d o=>(by rw[ff];show(a.rows.map λ(a:X)=>(a:Z))[f]?=_;grind);have t:∀k f:X,e[k]?=Y f->ao (a5 e) (k:Z)=Y (f:Z):=λk f cs=>(by rw[ff];show(e.map λ(a:X)=>(a:Z))[k]?=_;grind);unfold xa;refine bz (aey an aa) ?_;dsimp only;have fs:=Fk a e a.rows.length;refine bD (P:=λq=>∃p r,q=(p,r,kh a e a.rows.length,(a5 b,([]:aA),a5 (fY a e a.rows.length),bJ e.length ([]:aA),()),())) ?_ ?_
 ·refine bL e.length (λk q=>∃p r,q=((k:Z),p,r,kh a e a.rows.length,(a5 (b.take k),([]:aA),a5 (fY a e a.rows.length),bJ k ([]:aA),()),())) ⟨_,_,bn⟩ ?_ ?_
  ·rintro k _ ds ⟨p,r,rfl⟩;dsimp only;obtain⟨f,d,aw,av,u⟩:=w.get ds;rw[F,aY (aL (aa:(k:Z)<(e.length:Z))),bi aa];refine bz (t k f aw) (bz (dl f d u) ?_);rw[dc (by grind [fH]),bM,dc (by grind),bM];refine bu.2 ⟨p,r,?_⟩;rw[cr,av];simp only[oq,Option.toList];rw[show bJ (k+1) ([]:aA)=bJ k []++[[]] from List.replicate_succ'];rfl
  rintro _ ⟨p,r,rfl⟩;dsimp only;rw[F,a1 (aI (aa:¬(e.length:Z)<(e.length:Z))),ch aa];grind [bu]
 rintro _ ⟨p,r,rfl⟩;dsimp only;obtain⟨z,em,aw,av,u⟩:=w.get cv;have K:∀{f g d C:X},a.rows[f]?=Y d->a.rows[g]?=Y C->∃v,ao (fP a).2.2.1 (f:Z)=Y v/\ao v (g:Z)=Y (ay (a.s d C))/\cM (a.s d C):=λo x=>(by obtain⟨v,O,Q⟩:=xg o x;exact⟨v,O,Q,N _ (aiw o) _ (aiw x)⟩);obtain⟨v,O,Q,d1⟩:=K u u;refine bz (t 0 z aw) (bz O (bz (t 0 z aw) (bz Q (bz (Fj d1) ?_))));dsimp only;refine bD (P:=λq=>q=(p,r,kh a e a.rows.length,(a5 b,a.gD b,a5 (fY a e a.rows.length),hK a e b 0,()),())) ?_ ?_
 ·have a4:bJ e.length ([]:aA)=hK a e b 0:=by
   unfold hK fY;rw[<-c1];exact al9.symm
  rw[a4,F];rcases w.jv with⟨f,d,rfl,rfl,y⟩|⟨f,g,d,C,rfl,rfl,y,H⟩
  ·rw[a1 (by rfl)];have:z=f:=(gC aw).symm;subst this;rw[u] at y;cases y;exact bu.2 bn
  have:z=f:=(gC aw).symm;subst this;rw[u] at y;cases y;obtain⟨fz,d2,d3,d4⟩:=K H u;obtain⟨fT,d5,d6,d7⟩:=K H H;rw[aY (by rfl)];refine bz (t 1 g bn) (bz d2 (bz (t 0 z bn) (bz d3 (bz (Fj d4) (bz (t 1 g bn) (bz d5 (bz (t 1 g bn) (bz d6 (bz (Fj d7) ?_)))))))));rw[dc ac,aD];exact bu.2 bn
 rintro _ rfl;dsimp only;refine bD (P:=λq=>((∀d∈a.lc b,∀i,i<a.rows.length->i∉e->cE (d (a.rows.getD i 0))≠2047)/\q=.inl (p,r,kh a e a.rows.length,(a5 b,a.gD b,a5 (fY a e a.rows.length),hK a e b a.rows.length,()),()))\/((∃d∈a.lc b,∃i,i<a.rows.length/\i∉e/\cE (d (a.rows.getD i 0))=2047)/\∃B A,q=.inr (B,A,bq,()))) ?_ ?_
 ·refine bL a.rows.length (λi q=>q=((i:Z),p,r,kh a e a.rows.length,(a5 b,a.gD b,a5 (fY a e a.rows.length),hK a e b i,()),())/\∀d∈a.lc b,∀g,g<i->g∉e->cE (d (a.rows.getD g 0))≠2047) ⟨bn,λd o g co=>absurd co aa⟩ ?_ ?_
  ·rintro i _ D ⟨rfl,bl⟩;dsimp only;rw[aq,aY (aL (aa:(i:Z)<(a.rows.length:Z))),bi aa];obtain⟨E,d8,d9,ft⟩:=AN (l:=e) aa i;refine bD (P:=λq=>(q=.inl (p,r,kh a e a.rows.length,(a5 b,a.gD b,a5 (fY a e a.rows.length),hK a e b (i+1),()),())/\∀d∈a.lc b,∀g,g<i+1->g∉e->cE (d (a.rows.getD g 0))≠2047)\/((∃d∈a.lc b,∃i,i<a.rows.length/\i∉e/\cE (d (a.rows.getD i 0))=2047)/\∃B A,q=.inr (.inr (.inr (B,A,bq,()))))) ?_ ?_
   ·refine bz d8 ?_;dsimp only;by_cases G:i∈e
    ·obtain⟨g,rfl,_⟩:=d9 G;rw[aY (aL (aa:(g:Z)>=0))];refine bu.2 (.inl ⟨?_,λd o m L ap=>?_⟩)
     ·simp_all [JM,hK]
     grind
    rw[a1 (aI (show¬E>=0 by grind))];have J:a.rows[i]?=Y (a.rows.getD i 0):=(by simp_all);refine bz (w.aen N J _ rfl) ?_;dsimp only;refine bD (Vo D an G) ?_;rintro _ (⟨bx,rfl⟩|⟨⟨d,o,x⟩,el,ek,rfl⟩)
    ·refine bu.2 (.inl ⟨bn,λd o m L ap=>?_⟩);grind
    exact bu.2 (.inr ⟨⟨d,o,i,D,G,x⟩,el,ek,bn⟩)
   rintro _ (⟨rfl,fl⟩|⟨x,B,A,rfl⟩)
   ·grind [bu]
   grind [bu]
  rintro _ ⟨rfl,bl⟩;dsimp only;rw[aq,a1 (aI (aa:¬(a.rows.length:Z)<(a.rows.length:Z)))];grind [bu]
 rintro _ (⟨bx,rfl⟩|⟨x,B,A,rfl⟩)
 rotate_left
 ·grind [bu]
 dsimp only;have a3:kh a e a.rows.length=(a5 (fY a e a.rows.length),ax ((a.full:Z)-(e.length:Z)),k8 a b (fY a e a.rows.length) 0 0,()):=(by rw[aec];rfl);have ci:=λi m I M J a0=>w.form (q:=(a5 b,a.gD b,a5 (fY a e a.rows.length),hK a e b a.rows.length,())) (i:=i) (m:=m) (I:=I) (M:=M) (by grind [fH,bf]) rfl rfl J a0;have V:∀d∈fY a e a.rows.length,d∈a.rows:=λd o=>(by unfold fY at o;obtain⟨f,cs,rfl⟩:=List.mem_map.1 o;simp_all);rw[a3];generalize ex:fY a e a.rows.length=c at*;refine bD (P:=λq=>∃h j,q=(h,j,(a5 c,ax ((a.full:Z)-(e.length:Z)),k8 a b c c.length 0,()),(a5 b,a.gD b,a5 c,hK a e b a.rows.length,()),())) ?_ ?_
 rotate_left
 ·rintro _ ⟨h,j,rfl⟩;simp_all [ad9,bu,Hs]
 have eq:∀S:Z×bm (bm fX)×bt,al ((a5 c,S):dg).1=(c.length:Z):=λS=>(by grind [bf,fH]);refine bL c.length (λi q=>∃h j,q=((i:Z),h,j,(a5 c,ax ((a.full:Z)-(e.length:Z)),k8 a b c i 0,()),(a5 b,a.gD b,a5 c,hK a e b a.rows.length,()),())) ⟨_,_,bn⟩ ?_ ?_
 rotate_left
 ·rintro _ ⟨h,j,rfl⟩;dsimp only;rw[bf,fH,a1 (aI (aa:¬(c.length:Z)<(c.length:Z)))];grind [bu]
 rintro i _ D ⟨h,j,rfl⟩;dsimp only;rw[bf,fH,aY (aL (aa:(i:Z)<(c.length:Z))),bi aa];refine bD (P:=λq=>∃h j,q=(h,j,(a5 c,ax ((a.full:Z)-(e.length:Z)),k8 a b c i c.length,()),(a5 b,a.gD b,a5 c,hK a e b a.rows.length,()),())) ?_ ?_
 rotate_left
 ·rintro _ ⟨h,j,rfl⟩;refine bu.2 ⟨h,j,?_⟩;rw[aea]
 refine bL c.length (λm q=>∃h j,q=((m:Z),h,j,(a5 c,ax ((a.full:Z)-(e.length:Z)),k8 a b c i m,()),(a5 b,a.gD b,a5 c,hK a e b a.rows.length,()),())) ⟨_,_,bn⟩ ?_ ?_
 rotate_left
 ·rintro _ ⟨h,j,rfl⟩;dsimp only;rw[a1 (aI (show¬(c.length:Z)<al (a5 c) by simp_all))];grind [bu]
 rintro m _ L ⟨h,j,rfl⟩;dsimp only;rw[aY (aL (show(m:Z)<al (a5 c) by simp_all)),bi aa];obtain⟨v,R,f1,dd,f2⟩:=aeb a b c D L;have ap:(k8 a b c i m).length=c.length:=cX _ _;have T:c[i]?=Y (c.getD i 0):=(by simp_all);have U:c[m]?=Y (c.getD m 0):=(by simp_all);have ad:=eU (n:=(k8 a b c i m).length) (i:=i) aa;have am:=eU (n:=v.length) (i:=m) aa;have c2:cM (a.s (c.getD i 0) (c.getD m 0)):=N _ (V _ (aiw T)) _ (V _ (aiw U));have ce:cM (nA (a.gD b) (a.lc b) (c.getD i 0) (c.getD m 0)):=by
  unfold nA;split
  ·exact kC _ _
  ·exact kQ _ _
  intro f0 d0;cases d0;exact da _
 refine bz ad (bz ad ?_);rw[gj R,aD];refine bz am ?_;rw[gj R,gj dd,aD];refine bz (ci i m _ _ T U) ?_;refine bz (E9 c2 ce) ?_;refine bz am ?_;rw[gj R,gj dd];refine bu.2 ⟨h,j,?_⟩;grind
def jb (a:a8):hd:=(a5 a.cF,a.d,a5 a.rows,a.l.map (λb=>a.rows.map b),())
theorem acH (a:aie):a=(bI a.length).map λb=>a.getD b 0:=by refine yv ac λe c d=>?_;grind
theorem me.mem {b:aV} (f:me b n e) (m:b.rows.Nodup) (l:a<b.rows.length):b.rows.getD a 0∈e↔a∈n:=by
 have h:b.rows.getD a 0=b.rows[a]:=(by grind);have p:∀{d c:X},b.rows[d]?=Y c->(b.rows[a]=c↔a=d):=λ{d c} k=>(by grind [ajC,aiV]);rw[h];rcases f.jv with⟨d,c,rfl,rfl,g⟩|⟨d,o,c,i,rfl,rfl,g,j⟩
 ·grind
 grind
def me.rest {a:aV} (d:me a n e) (f:a.rows.Nodup):fY a n a.rows.length=a.rows.filter λg=>br (g∉e):=by
 conv=>rhs;rw[acH a.rows]
 unfold fY;rw[List.filter_map];congr 1;refine pt λc b=>?_;have b:=iq.1 b;show br (c∉n)=br (a.rows.getD c 0∉e);rw[cy,d.mem f b]
theorem acq {a:aV} (w:a.okd) (s:a.rows.length<=1000) (k:a.rows.Nodup) (f:me a n e) (y:a.full<=a.rows.length) (z:n.length<=a.full):ae (xa (fP a,a5 n,())) λm=>((a.eM e).fin/\m=(fP (a.elim e),jb (a.eM e),bp,()))\/(¬(a.eM e).fin/\m.2.2.1=bq):=by
 have t:=f.rest k;have q:(a.eM e).fin↔∀c∈a.lc e,∀b,b<a.rows.length->b∉n->cE (c (a.rows.getD b 0))≠2047:=by
  constructor
  ·intro j c h b d o;refine j c h _ (ht.2 ⟨?_,aij (mt (f.mem k d).1 o)⟩);grind
  intro j c h b d;have d:b∈a.rows.filter λb=>br (b∉e):=d;obtain⟨i,g⟩:=ht.1 d;obtain⟨l,p,rfl⟩:=hu.1 i;have r:a.rows.getD l 0=a.rows[l]:=(by grind);have g:=of_decide_eq_true g;rw[<-r] at g|-;exact j c h l p (mt (f.mem k p).2 g)
 refine(acr w s f).mono λm u=>?_;rcases u with⟨i,rfl⟩|⟨⟨c,h,b,d,o,x⟩,g⟩
 ·refine .inl ⟨q.2 i,?_⟩;have v:ax ((a.full:Z)-(n.length:Z))=((a.full-e.length:X):Z):=by
   have:=f.len.1;grind [cL]
  unfold Hs;rw[v];unfold hK;rw[t];rfl
 grind
def lf (a b:X->Rat):X->Rat
 |0=>0
 |n+1=>lf a b n+a n*b n
def m4 (c:X) (b:aie):aie:=b.filter λa=>br (a≠c)
def Xu:a∈m4 b e↔a∈e/\a≠b:=by simp[m4]
def X0 (b:e.Nodup):(m4 a e).Nodup:=b.sublist tN
def aez (c:a∉e):m4 a e=e:=mL.2 λf d=>aij λb=>c (b▸d)
def RF {b:X}:∀{a:aie},a.Nodup->b∈a->(m4 b a).length+1=a.length
 |[],_,d=>by simp at d
 |i::a,e,d=>by
  rw[kk] at e;by_cases c:i=b
  ·subst c;have:m4 i (i::a)=m4 i a:=(by simp[m4]);rw[this,aez e.1,i5]
  have:m4 b (i::a)=i::m4 b a:=(by simp[m4,c]);rw[this,i5,i5,RF e.2 (by simpa[Ne.symm c] using d)]
theorem Nc {e:X->Z} {b:X}:∀{d:aie} {a:Z×aia},a.2≠Y b->(e8 e b d a).2≠Y b
 |[],_,c=>c
 |i::d,a,c=>by rw[e8];refine Nc ?_;grind
def tG (c b:aie):Prop:=b=[]\/(∃a,b=[a]/\a∈c)\/∃a d,b=[a,d]/\a∈c/\d∈c/\a≠d
theorem GF {c:aV}:∀{g d:aie},(∀p∈g,p∈c.rows.take c.full)->c.gL g=Y d->tG (c.rows.take c.full) d
 |[],d,_,b=>by rw[aV.gL] at b;cases b;exact .inl bn
 |p::g,d,h,b=>by
  have f:=h p ac;rw[aV.gL] at b;split at b
  ·cases b
  split at b
  ·cases b;exact .inr (.inl ⟨p,bn,f⟩)
  split at b
  ·cases b;exact .inr (.inl ⟨p,bn,f⟩)
  rename_i i k;split at b
  ·exact GF (λl m=>h l (by grind)) b
  rename_i e;have e:=Classical.not_not.1 e;split at b
  ·cases b
  split at b
  ·cases b;exact .inr (.inl ⟨p,bn,f⟩)
  split at b
  ·cases b;exact .inr (.inl ⟨i,bn,e⟩)
  cases b;refine .inr (.inr ⟨p,i,bn,f,e,λj=>?_⟩);subst j;exact Nc (a:=(0,bo)) ac k
theorem adY (c:b∈e) (d:h∈e) (g:b≠h):2<=e.length:=by
 match e,c,d with
 |[a],c,d=>
  grind
 |a::f::e,_,_=>simp
theorem qv.use {a:aV} (p:qv a (a.rows.take a.full) z) (r:a.full<=a.rows.length):(z=([],bq,())/\a.choose=bo)\/(z=([],bp,())/\a.choose=Y [])\/∃d i,z=(a5 d,bp,())/\me a d i/\d.length<=a.full/\0<d.length/\a.choose=Y i:=by
 rcases p with⟨f,j⟩|⟨d,f,j,g⟩
 ·exact .inl ⟨f,j⟩
 have s:∀c∈d,a.rows[c]?=Y (a.rows.getD c 0):=λc q=>(by grind);have v:(a.rows.take a.full).length=a.full:=(by grind);rcases GF (λe h=>h) g with b|⟨e,b,h⟩|⟨e,m,b,h,u,t⟩
 ·rw[b] at g;have:d=[]:=List.map_eq_nil_iff.1 b;subst this;exact .inr (.inl ⟨f,g⟩)
 ·obtain⟨c,rfl,q⟩:=List.map_eq_singleton_iff.1 b;refine .inr (.inr ⟨[c],[e],f,⟨.inl ⟨c,e,bn,bn,?_⟩⟩,?_,ac,by rw[<-b];exact g⟩)
  ·grind
  grind
 match d,b with
 |[c,l],b=>
  simp only[h8,ajs,hN,b9] at b;obtain⟨o,n⟩:=b;have k:=g;simp only[h8,ajs,o,n] at k;refine .inr (.inr ⟨[c,l],[e,m],f,⟨.inr ⟨c,l,e,m,bn,bn,?_,?_⟩⟩,?_,ac,k⟩)
  ·grind
  ·grind
  grind [adY,List.length_cons,List.length_nil]
structure kM (x:aV):Prop where
 okd:x.okd
 nd:x.rows.Nodup
 full:x.full<=x.rows.length
theorem DU:∀{S:aie},S.Nodup->e.Nodup->(∀a∈e,a∈S)->(S.filter λb=>br (b∉e)).length+e.length=S.length:=by
 induction e with
 |nil=>simp_all
 |cons a e i=>
  intro S d c f;rw[kk] at c;have k:=i (S:=m4 a S) (X0 d) c.2 λj h=>Xu.2 ⟨f j (by grind),λg=>c.1 (g▸h)⟩;have l:=RF d (f a ac);have m:(m4 a S).filter (λb=>br (b∉e))=S.filter λb=>br (b∉a::e):=(by unfold m4;rw[Bv];grind);grind
theorem kM.elim {a:aV} (d:kM a) {b:aie} (h:tG (a.rows.take a.full) b):kM (a.elim b) where
 okd:=λg _ l _=>kQ _ _
 nd:=d.nd.sublist tN
 full:=by
  show a.full-b.length<=(a.rows.filter λg=>br (g∉b)).length;have k:∀{c},c∈a.rows.take a.full->c∈a.rows:=λe=>wb e;have f:b.Nodup/\∀c∈b,c∈a.rows:=by
   rcases h with rfl|⟨c,rfl,e⟩|⟨c,m,rfl,e,j,i⟩
   ·grind
   ·grind
   grind
  have:=DU d.nd f.1 f.2;have:=d.full;omega
theorem x3 {b:aV} (d:b.choose=Y e) (f:0<e.length):aV.run (a+1) b=if(b.eM e).fin then(aV.run a (b.elim e)).map (λc=>(c.1,b.eM e::c.2)) else bo:=by grind [aV.run]
theorem JQ {b:aV} (c:b.choose=bo):aV.run (a+1) b=bo:=by rw[aV.run,c]
def Fm {b:aV} (c:b.choose=Y []):aV.run (a+1) b=Y (b,[]):=by rw[aV.run,c]
def BY {a:aV} (b:a.choose=Y e):tG (a.rows.take a.full) e:=GF (λd c=>c) b
structure St (tB:aV) (n:X) (pv0:bm hd) (y:aV) (ps:bm a8) (m:X):Prop where
 w:kM y
 len:y.rows.length<=1000
 lt:y.full<m
 pl:ps.length+y.full<=tB.full
 run:aV.run n tB=(aV.run m y).map λq=>(q.1,ps++q.2)
theorem acK {g:aV} (A:kM g) (L:g.rows.length<=1000) (N:g.full<a) (l:eH) (j:bm dg) {pv0:bm hd} (a4:pv0.length<=1000000):ae (loop (σ:=(bA×eH×bm dg×bm hd×dg×bt)) (ρ:=(bA×eH×bm dg×bm hd×dg×bt)) (λ(r,u,p,s,m,_)=>
 bif !r then
 (zS (m,())).bind λ(F,T,_)=>
 bB (α:=(bA×eH×bm dg×bm hd×dg×bt)) (bif !T then
 Y (bp,u,p,s,m,()) else
 Y (r,u,p,s,m,())) λ(B,v,q,t,n,_)=>
  bif al F==0 then
 Y (.inr (B,v,q,t,n,())) else
 (xa (n,F,())).bind λ(H,I,U,_)=>
 bB (α:=(bA×eH×bm dg×bm hd×dg×dg×hd×bt)) (bif !U then
 Y (bp,v,q,t,n,H,I,()) else
 Y (B,v,q,t,n,H,I,())) λ(S,ad,R,D,_,am,C,_)=>
 (cC (D.length+([C]).length)).bind λ_=>
 Y (.inl (S,ad,R,(D++[C]),am,())) else
 Y (.inr (r,u,p,s,m,()))) (bq,l,j,pv0,fP g,())) λe=>
  (∃b d,aV.run a g=Y (b,d)/\e=(bq,l,j,pv0++d.map jb,fP b,())/\kM b)\/(aV.run a g=bo/\e.1=bp):=by
 refine aiA (λe=>(∃b d k,e=(bq,l,j,pv0++d.map jb,fP b,())/\St g a pv0 b d k)\/(aV.run a g=bo/\e.1=bp)) (λe=>if e.1=bp then 0 else e.2.2.2.2.1.2.1.toNat+1) (.inl ⟨g,[],a,ac,A,L,N,ac,ac⟩) ?_;rintro e (⟨b,d,k,rfl,c⟩|⟨an,x⟩)
 rotate_left
 ·obtain⟨ci,cv,lf,co,c1,_⟩:=e;dsimp only at x;subst x;dsimp only;rw[a1 (by rfl)];grind [bu]
 dsimp only;rw[aY (by rfl)];have a3:=c.lt;have bl:=c.pl;have bx:=A.full;obtain⟨k,rfl⟩:∃Q,k=Q+1:=⟨k-1,aa⟩;refine bD (ab5 c.w.okd c.len c.w.nd c.w.full) ?_;intro cs O;rcases O.use c.w.full with⟨rfl,h⟩|⟨rfl,h⟩|⟨ce,f,rfl,z,M,a0,h⟩
 ·refine bu.2 (.inr ⟨?_,bn⟩);rw[c.run,JQ h];rfl
 ·refine bu.2 (.inl ⟨b,d,?_,bn,c.w⟩);rw[c.run,Fm h];simp
 dsimp only;have ap:=z.len;refine bz (y:=(bq,l,j,pv0++d.map jb,fP b,())) (by rfl) ?_;dsimp only;rw[a1 (by rw[gK,aI (by grind [bf,fH])])];refine bD (acq c.w.okd c.len c.w.nd z c.w.full M) ?_;rintro⟨E,G,V,_⟩ (⟨o,i⟩|⟨o,i⟩)
 ·have aq:E=fP (b.elim f):=b4 (·.1) i;have J:G=jb (b.eM f):=b4 (·.2.1) i;have K:V=bp:=b4 (·.2.2.1) i;subst aq J K;dsimp only;refine bz (y:=(bq,l,j,pv0++d.map jb,fP b,fP (b.elim f),jb (b.eM f),())) (by rfl) ?_;dsimp only;have P:=c.w.full;rw[dc (by grind),bM];have av:(b.elim f).full=b.full-f.length:=rfl;refine bu.2 ⟨.inl ⟨b.elim f,d++[b.eM f],k,ac,c.w.elim (BY h),cu (aiH _ _) c.len,aa,by grind,?_⟩,?_⟩
  ·rw[c.run,x3 h aa,au o,Option.map_map];congr 1;grind
  show(if bq=bp then 0 else((b.full-f.length:X):Z).toNat+1)<(if bq=bp then 0 else((b.full:X):Z).toNat+1);grind
 dsimp only at i;subst i;dsimp only;refine bz (y:=(bp,l,j,pv0++d.map jb,fP b,E,G,())) (by rfl) ?_;dsimp only;have P:=c.w.full;rw[dc (by grind),bM];refine bu.2 ⟨.inr ⟨?_,bn⟩,?_⟩
 ·rw[c.run,x3 h aa,az o];rfl
 grind
theorem tG.props (b:tG n e):e.Nodup/\∀a∈e,a∈n:=by
 rcases b with rfl|⟨a,rfl,c⟩|⟨a,g,rfl,c,f,d⟩
 ·grind
 ·grind
 grind
def Vp (b:∀f∈e,f∉n):(e.filter λd=>br (d∉n))=e:=
 mL.2 λa c=>aij (b a c)
theorem kM.UD {a:aV} (f:kM a) (i:tG (a.rows.take a.full) e):(a.elim e).rows.take (a.elim e).full=((a.rows.take a.full).filter λb=>br (b∉e))/\(a.elim e).rows.drop (a.elim e).full=a.rows.drop a.full:=by obtain⟨l,g⟩:=i.props;have c:=f.nd;rw[<-kl a.full a.rows,jO] at c;have k:=DU c.1 l g;have j:=f.full;rw[fQ,hI j] at k;have aq:(a.elim e).full=((a.rows.take a.full).filter λb=>br (b∉e)).length:=(by show a.full-e.length=_;omega);have o:(a.elim e).rows=((a.rows.take a.full).filter λb=>br (b∉e))++a.rows.drop a.full:=(by show(a.rows.filter λb=>br (b∉e))=_;have h:(a.rows.drop a.full).filter (λb=>br (b∉e))=a.rows.drop a.full:=Vp λd m n=>c.2.2 d (g d n) d m bn;exact(b4 (akh λb=>br (b∉e)) (kl a.full a.rows).symm).trans ((pq ..).trans (by rw[h])));grind
theorem abn (d:n.Nodup) (c:e.Nodup) (f:∀b∈e,b∈n):(e++n.filter λa=>br (a∉e)).Perm n:=by grind
structure tW (S:aie) (q:a8):Prop where
 nd:q.rows.Nodup
 sub:∀i∈q.rows,i∈S
 len:q.l.length=q.cF.length
 at1:q.cF.length=1\/q.cF.length=2
 dl:q.d.length=2*q.cF.length-1
 fin:q.fin
def kM.PY {a:aV} (h:kM a) (c:tG (a.rows.take a.full) e) (f:0<e.length) (j:(a.eM e).fin) {S:aie} (i:∀d∈a.rows,d∈S):tW S (a.eM e) where
 nd:=h.nd.sublist tN
 sub:=λd k=>i d (ht.1 k).1
 len:=by rcases c with rfl|⟨b,rfl,_⟩|⟨b,g,rfl,_⟩<;>rfl
 at1:=by
  rcases c with rfl|⟨b,rfl,_⟩|⟨b,g,rfl,_⟩
  ·cases f
  ·exact .inl bn
  exact .inr bn
 dl:=by
  rcases c with rfl|⟨b,rfl,_⟩|⟨b,g,rfl,_⟩
  ·cases f
  ·rfl
  rfl
 fin:=j
structure F4 (x y:aV) (ps:bm a8):Prop where
 w:kM y
 rest:y.rows.drop y.full=x.rows.drop x.full
 perm:(ps.flatMap a8.cF++y.rows.take y.full).Perm (x.rows.take x.full)
 eM:∀q∈ps,tW x.rows q
 sub:∀i∈y.rows,i∈x.rows
 done:y.choose=Y []
theorem QD:∀{n:X} {a m:aV} {k:bm a8},kM a->a.full<n->aV.run n a=Y (m,k)->F4 a m k
 |0,a,m,k,_,v,_=>by omega
 |n+1,a,m,k,g,v,d=>by
  match hc:a.choose with
  |none=>grind [JQ]
  |some []=>
   rw[Fm hc] at d;cases d;exact⟨g,bn,aks _,λl f=>(by cases f),λb c=>c,hc⟩
  |some (
   j::h)=>
   rw[x3 hc ac] at d;split at d
   case isFalse=>cases d
   rename_i u;have i:=BY hc;obtain⟨x,q⟩:=i.props;cases p:aV.run n (a.elim (j::h)) with
   |none=>grind
   |some l=>
    obtain⟨s,y⟩:=l;rw[p] at d;cases d;have z:0<a.full:=(by have:=List.length_pos_of_mem (q j ac);grind);have e:=QD (g.elim i) (aa:a.full-(h.length+1)<n) p;obtain⟨aq,t⟩:=g.UD i;have r:∀b∈(a.elim (j::h)).rows,b∈a.rows:=λb c=>(ht.1 c).1;refine⟨e.w,e.rest.trans t,?_,?_,λb c=>r b (e.sub b c),e.done⟩
    ·have o:=e.perm;rw[aq] at o;show((j::h)++y.flatMap a8.cF++s.rows.take s.full).Perm _;rw[i4];exact(akT _ o).trans (abn (g.nd.sublist (alb ..)) x q)
    intro l f;rcases fR.1 f with rfl|f
    ·exact g.PY i ac u λb c=>c
    have:=e.eM l f;exact{this with sub:=λb c=>r b (this.sub b c)}
theorem TT {c:aV} (i:c.full=c.rows.length):∀{L:aie},(∀p∈L,p∈c.rows)->c.gL L=Y []->L=[]
 |[],_,_=>rfl
 |p::L,k,d=>by
  exfalso;rw[aV.gL] at d;split at d
  ·cases d
  split at d
  ·cases d
  split at d
  ·cases d
  rename_i f h;have m:f∈c.rows.take c.full:=by
   rw[i,hP];have:∀{l:aie} {a:Z×aia},(∀b,a.2=Y b->b∈c.rows)->(∀b∈l,b∈c.rows)->∀b,(e8 (λb=>c.av b p) p l a).2=Y b->b∈c.rows:=by
    intro l
    induction l with
    |nil=>intro a g _ b e;exact g b e
    |cons j l n=>
     grind [e8]
   exact this (l:=c.rows) (a:=(0,bo)) ac (λb e=>e) f h
  grind
theorem F4.whole {b a:aV} {h:bm a8} (c:F4 b a h) (j:kM b) (g:b.full=b.rows.length):a.rows=[]/\a.full=0:=by have d:a.rows.drop a.full=[]:=(by rw[c.rest,g,List.drop_length]);have e:a.full=a.rows.length:=(by have:=List.drop_eq_nil_iff.1 d;have:=c.w.full;omega);have i:=TT e (L:=a.rows.take a.full) (λk f=>wb f) c.done;grind
theorem Wh (j:c.length<=1000000) (g:c[a]?=Y d) (k:∀b,b<a->c[b]?≠Y d):zp (c,d,())=Y ((a:Z),()):=by
 obtain⟨l,i⟩:=aiV.1 g;unfold zp;refine bQ.1 ?_;dsimp only;refine bD (P:=λb=>b=.inr ((a:Z),())) ?_ (by grind [bu]);refine bL (a+1) (λe h=>e<=a/\h=((e:Z),())) ⟨al8 _,bn⟩ ?_ ?_
 ·rintro e _ m ⟨n,rfl⟩;dsimp only;rw[aY (aL (show(e:Z)<al c by grind)),bi aa];refine bz (y:=c[e]'(by omega)) (e1 aa) ?_
  rw[gK,cO];refine aim (λf=>?_) (λf=>?_)
  ·refine bu.2 ?_;rcases cQ e a with b|b
   ·grind
   grind
  grind [bu,cl]
 omega
section
def gd (l:bm df) (t:X):X:=bd l (t+1)-bd l t
def hE (l:bm df) (t:X):X:=(gO l (t:Z)).length
def jt (l:bm df) (t a:X):X:=((gO l (t:Z)).getD a 0).toNat
def gg (l:bm df) (t:X):Z:=((l[t]?).map λ(a:df)=>a.2.2.2.1).getD 0
def Eg (l:bm df) (t b:X):Prop:=∃a,gd l t<=a/\a<hE l t/\jt l t a=b
structure iD (n:X) (l:bm df) (t:X):Prop where
 lt:t<l.length
 g:l[t]?=Y ((bd l t:Z),(bd l (t+1):Z),gO l (t:Z),gg l t,())
 BW:bd l t<bd l (t+1)
 wF:bd l (t+1)<=n
 OD:gd l t<=hE l t
 Bz:hE l t<=n
 get:∀i,i<hE l t->(gO l (t:Z))[i]?=Y ((jt l t i:X):Z)
 ro:∀i,i<gd l t->jt l t i=bd l t+i
 Jy:∀i,gd l t<=i->i<hE l t->bd l (t+1)<=jt l t i
 A3:∀i,i<hE l t->jt l t i<n
 ab0:∀i j,i<j->j<hE l t->jt l t i<jt l t j
theorem iD.of {G:ew} {l:bm df} {n t:X} (k:hq G l) (z:G.length=n) (c:t<l.length):iD n l t:=by
 obtain⟨j,m,A,_⟩:=k;obtain⟨v,w,h,x⟩:=(j.1 t c).at c;have e:=m t c;have g:gO l (t:Z)=l[t].2.2.1:=tq c;have B:=e.asc aa aa;have r:(l[t].2.1-l[t].1).toNat=gd l t:=(by grind [gd]);have q:gd l t<=hE l t:=(by unfold hE;rw[g,<-r];exact e.1);have o:∀a,(b:a<l[t].2.2.1.length)->(a<gd l t->l[t].2.2.1[a]=(bd l t:Z)+a)/\(gd l t<=a->(bd l (t+1):Z)<=l[t].2.2.1[a]/\l[t].2.2.1[a]<(n:Z)):=λa b=>(by have f:=e.2 a (da _) b b;omega);have F:∀a,(b:a<l[t].2.2.1.length)->0<=l[t].2.2.1[a]/\l[t].2.2.1[a]<(n:Z):=λa b=>(by obtain⟨f,i⟩:=o a b;omega);have p:∀a,a<hE l t->(gO l (t:Z))[a]?=Y ((jt l t a:X):Z):=λa b=>(by grind [bS,jt,hE]);have H:∀a,(b:a<l[t].2.2.1.length)->((jt l t a:X):Z)=l[t].2.2.1[a]:=λa b=>(by grind [ai1,bS,hE]);have E:∀a,a<hE l t->a<l[t].2.2.1.length:=λa b=>(by grind);have s:∀a d,a<d->d<hE l t->jt l t a<jt l t d:=λa d C D=>(by grind [aih]);have u:∀a,a<hE l t->jt l t a<n:=λa b=>(by grind);refine⟨c,?_,h,aa,q,?_,p,λa b=>?_,λa f i=>?_,u,s⟩
 ·rw[ba c,g];have y:gg l t=l[t].2.2.2.1:=(by simp_all [ba,gg]);grind
 ·have:=IN ((bI (hE l t)).map (jt l t)) n ?_ ?_
  ·simp_all
  ·rw[py];refine tK ?_ List.pairwise_lt_range;grind
  simp_all
 ·grind
 grind
section
variable {n:X} {l:bm df} {t:X}
theorem iD.own (a:iD n l t):bd l t+gd l t=bd l (t+1):=by have:=a.BW;grind [gd]
theorem iD.pos (d:iD n l t) (g:(a:Z)∈gO l (t:Z)):∃b,b<hE l t/\jt l t b=a:=by obtain⟨b,c,f⟩:=hu.1 g;have e:=d.get b c;rw[ba c,f] at e;exact⟨b,c,by grind⟩
end
section
variable {G:ew} {l:bm df} {n:X}
theorem TK (d:hq G l) (g:b<=a) (h:a<=l.length):bd l b<=bd l a:=by
 induction a with
 |zero=>grind
 |succ a e=>
  rcases cQ a b with c|c
  ·grind
  have:=e c aa;obtain⟨_,_,f,_⟩:=(d.1.1 a aa).at aa;omega
theorem EY (b:hq G l) (s:G.length=n) {t:X} (d:t<l.length):(gg l t=-1/\∀e,¬Eg l t e)\/∃a:X,gg l t=(a:Z)/\t<a/\a<l.length/\∀e,Eg l t e->(e:Z)∈gO l (a:Z):=by
 have f:=iD.of b s d;have k:gg l t=l[t].2.2.2.1:=(by grind [bS,gg]);have v:gO l (t:Z)=l[t].2.2.1:=tq d;obtain⟨w,x,y,z⟩:=(b.1.1 t d).at d;have u:(l[t].2.1-l[t].1).toNat=gd l t:=(by grind [gd]);have C:=b.parent d;rcases b.2.2.1 t d with⟨h,c⟩|⟨h,c,A⟩
 ·refine .inl ⟨by rw[k,c],?_⟩;rintro e ⟨j,aw,p,_⟩;grind [hE]
 right;simp only[u] at h c;have i:gd l t<hE l t:=(by grind [hE]);have g:=f.get (gd l t) i;rw[v,ba h] at g;have g:=gC g;rw[g,fJ] at c;have E:=f.A3 _ i;have D:=f.Jy _ (bc _) i;obtain⟨a,m,q,r⟩:=wG b.1 (aa:jt l t (gd l t)<G.length);rw[v2.last b.1 (⟨m,q,r⟩:v2 l _ a)] at c;refine⟨a,by rw[k,c],?_,m,?_⟩
 ·rcases cQ t a with o|o
  ·exact o
  have:=TK b (aa:a+1<=t+1) aa;omega
 rintro e ⟨j,aw,p,rfl⟩;have B:j<l[t].2.2.1.length:=(by grind [hE]);have F:=f.get j p;grind
end
end
section
def Ei:X->X
 |0=>0
 |t+1=>Ei t+(Ei t+5)
def eA (l:bm df) (t b:X):aie:=(bI t).filter λa=>br (gg l a=(b:Z))
section
variable {A:X->X->ah9} {n:X} {l:bm df} {B:X->X->X->Z} {t:X}
end
end
section
def MU {e:Type} {l:bm j} {b c:j->bm e} (d:∀a∈l,b a=c a):l.flatMap b=l.flatMap c:=by rw[anp,anp,h7 d]
def EW:cM (Y 0):=λb a=>by cases a;exact(by decide:aN 0<=131072)
def ho:aV:=⟨[],0,λ_ _=>Y 0⟩
def aV.plus (c d:aV):aV:=⟨c.rows,c.full,λa b=>if a∈d.rows/\b∈d.rows then cK (c.s a b) (d.s a b) else c.s a b⟩
def kH (l:bm df) (a:X):aie:=(ain (gd l a) (hE l a-gd l a)).map (jt l a)
def jD (l:bm df) (b:X->aV) (a:X):aie:=((eA l a a).flatMap λc=>(b c).rows.take (b c).full)++ain (bd l a) (gd l a)
def ig (d:X->X->ah9) (l:bm df) (c a b:X):ah9:=if bd l c<=min a b/\min a b<bd l (c+1) then d a b else Y 0
def jS (c:X->X->ah9) (l:bm df) (b:X->aV) (a:X):aV:=⟨jD l b a++kH l a,(jD l b a).length,ig c l a⟩
def hR (c:X->X->ah9) (l:bm df) (b:X->aV) (a:X):aV:=(eA l a a).foldl (λe d=>e.plus (b d)) (jS c l b a)
def AO (b:X->aV):∀(d:aie) (a:aV),(d.foldl (λa c=>a.plus (b c)) a).rows=a.rows/\(d.foldl (λa c=>a.plus (b c)) a).full=a.full
 |[],_=>⟨bn,bn⟩
 |c::d,a=>AO b d (a.plus (b c))
theorem E1 (e:X->aV):∀(f:aie) (a:aV),(∀b d,cM (a.s b d))->∀b d,cM ((f.foldl (λa c=>a.plus (e c)) a).s b d)
 |[],_,g=>g
 |c::f,a,g=>E1 e f (a.plus (e c)) λb d=>by show cM (if _ then _ else _);grind [kQ]
def h4 (b:X->X->ah9) (l:bm df):X->bv (bm aV×bm a8)
 |0=>Y ([],[])
 |t+1=>(h4 b l t).bind λa=>(aV.run ((hR b l (λc=>a.1.getD c ho) t).full+1) (hR b l (λc=>a.1.getD c ho) t)).map λd=>(a.1++[d.1],a.2++d.2)
def pM (l:bm df) (b:X):aie:=(bI b).filter λa=>br (gg l a=-1\/(b:Z)<=gg l a)
def kb (a:X->aV) (b:X):aie:=(a b).rows.take (a b).full
structure jM (l:bm df) (n t:X) (L:X->aV) (ps:bm a8):Prop where
 w:∀c,c<t->kM (L c)
 rest:∀c,c<t->(L c).rows.drop (L c).full=kH l c
 perm:(ps.flatMap a8.cF++(pM l t).flatMap (kb L)).Perm (bI (bd l t))
 root:∀c,c<t->gg l c=-1->(L c).rows=[]/\(L c).full=0
 eM:∀q∈ps,tW (bI n) q
 A3:∀c,c<t->∀i∈(L c).rows,i<n
section
variable {G:ew} {l:bm df} {n:X}
theorem As:b∈kH l a↔Eg l a b:=by unfold kH Eg;grind
theorem Ap:a∈eA l h b↔a<h/\gg l a=(b:Z):=by unfold eA;grind
theorem SV (a:X):(eA l a a++(bI a).filter λb=>br (gg l b=-1\/(a:Z)<gg l b)).Perm (pM l a):=by have e:=List.filter_append_perm (λb=>br (gg l b=(a:Z))) (pM l a);have aq:(pM l a).filter (λb=>br (gg l b=(a:Z)))=eA l a a:=(by unfold pM eA;rw[Bv];refine pt λb _=>?_;grind);have d:(pM l a).filter (λc=>!br (gg l c=(a:Z)))=(bI a).filter λb=>br (gg l b=-1\/(a:Z)<gg l b):=(by unfold pM;rw[Bv];refine pt λb _=>?_;rw[vV];simp only[bk,tE,decide_eq_false_iff_not,aiF];omega);grind
theorem SU (c:gg l a=-1\/(a:Z)<gg l a):pM l (a+1)=((bI a).filter λb=>br (gg l b=-1\/(a:Z)<gg l b))++[a]:=by grind [aiI,ajH,aik,aij,decide,gg,pM]
def acL (e:iD n l a):(kH l a).Nodup:=by unfold kH ali;rw[py];have d:=List.pairwise_lt_range' (s:=gd l a) (n:=hE l a-gd l a);refine(tK ?_ d);intro b c f h g;rw[List.mem_range'_1] at f h;have:=e.ab0 b c g aa;omega
theorem jM.BS {b:X->aV} {d:bm a8} (h:jM l n a b d) (f:iD n l a):((d.flatMap a8.cF++(((bI a).filter λc=>br (gg l c=-1\/(a:Z)<gg l c)).flatMap (kb b)))++jD l b a).Perm (bI (bd l (a+1))):=by
 have i:=h.perm;have e:=(SV (l:=l) a).flatMap_right (kb b);rw[qB] at e;have g:bI (bd l (a+1))=bI (bd l a)++ain (bd l a) (gd l a):=(by have:=f.own;rw[amc,amc,<-f.own];have:=List.range'_append (s:=0) (m:=bd l a) (n:=gd l a) (step:=1);grind);rw[g];have j:(d.flatMap a8.cF++(((bI a).filter λc=>br (gg l c=-1\/(a:Z)<gg l c)).flatMap (kb b)++(eA l a a).flatMap (kb b))).Perm (bI (bd l a)):=
  (akT _ (List.perm_append_comm.trans e)).trans i
 unfold jD;rw[<-i4];refine List.Perm.append_right _ ?_;rw[i4];exact j
theorem jM.ww {c:X->X->ah9} (w:∀d g,cM (c d g)) {b:X->aV} {r:bm a8} (k:jM l n a b r) (h:iD n l a):kM (hR c l b a):=by
 have i:=k.BS h;have p:=i.nodup_iff.2 yB;obtain⟨aq,j⟩:=AO b (eA l a a) (jS c l b a);refine⟨λd _ g _=>E1 b _ _ (λd g=>?_) d g,?_,?_⟩
 ·show cM (if _ then _ else _);split
  ·grind
  exact EW
 ·show((eA l a a).foldl (λf e=>f.plus (b e)) (jS c l b a)).rows.Nodup;rw[aq];refine jO.2 ⟨(jO.1 p).2.1,acL h,λs m t o u=>?_⟩;have v:=iq.1 (i.mem_iff.1 (lm _ m));obtain⟨d,i1,q,x⟩:=As.1 o;have:=h.Jy d i1 q;omega
 show((eA l a a).foldl (λf e=>f.plus (b e)) (jS c l b a)).full<=((eA l a a).foldl (λf e=>f.plus (b e)) (jS c l b a)).rows.length;rw[aq,j];show(jD l b a).length<=(jD l b a++kH l a).length;grind
def yO (c:X->X->ah9) (b:X->aV) (a:X):(hR c l b a).rows=jD l b a++kH l a/\(hR c l b a).full=(jD l b a).length:=AO b (eA l a a) (jS c l b a)
def jM.yN (f:X->X->ah9) {c:X->aV} {j:bm a8} (h:jM l n b c j) (d:iD n l b) (g:a∈(hR f l c b).rows):a<n:=by
 rw[(yO f c b).1,h9] at g;have:=d.wF;rcases g with e|e
 ·have k:=iq.1 ((h.BS d).mem_iff.1 (lm _ e));omega
 obtain⟨a,i1,i,m⟩:=As.1 e;have:=d.A3 a i;omega
theorem jM.BT (b:X->X->ah9) (g:∀f i,cM (b f i)) {c:X->aV} {j:bm a8} (d:jM l n a c j) (e:iD n l a):(hR b l c a).rows.length<=n:=by have:=(d.ww g e).nd.length_le_of_subset (l₂:=bI n) λf h=>iq.2 (d.yN b e h);grind
theorem jM.child (g:X->X->ah9) (k:hq G l) (j:G.length=n) (s:a<l.length) {c:X->aV} {v:bm a8} (q:jM l n a c v) (r:b∈eA l a a) (m:h∈(c b).rows):h∈(hR g l c a).rows:=by
 have i:=iD.of k j s;obtain⟨p,x⟩:=Ap.1 r;rw[(yO g c a).1];unfold jD;rw[<-kl (c b).full (c b).rows,h9] at m;rcases m with d|d
 ·grind
 rw[q.rest b p] at d;have d:=As.1 d;rcases EY k j (aa:b<l.length) with⟨y,_⟩|⟨o,z,A,B,w⟩
 ·omega
 obtain rfl:o=a:=aa;obtain⟨f,t,u⟩:=i.pos (w h d);rcases cQ f (gd l o) with e|e
 ·have:=i.ro f e;grind
 exact lm _ (As.2 ⟨f,e,t,u⟩)
theorem uV {h:X->X->ah9} (C:∀k M,cM (h k M)) (y:hq G l) (x:G.length=n):∀{t:X},t<=l.length->∀{o:bm aV} {u:bm a8},h4 h l t=Y (o,u)->o.length=t/\jM l n t (λa=>o.getD a ho) u
 |0,_,o,u,e=>by rw[h4] at e;cases e;refine⟨bn,⟨λa g=>by omega,λa g=>by omega,?_,λa g=>by omega,λb A=>(by cases A),λa g=>by omega⟩⟩;show List.Perm [] (bI (bd l 0));have:bd l 0=0:=rfl;grind
 |t+1,R,o,u,e=>by
  rw[h4] at e;cases D:h4 h l t with
  |none=>grind
  |some N=>
   obtain⟨c,S⟩:=N;obtain⟨i1,f⟩:=uV C y x aa D;have p:=iD.of y x (aa:t<l.length);rw[D] at e;dsimp only[bM] at e;have z:=f.ww C p;generalize s:hR h l (λa=>c.getD a ho) t=m at e;rw[s] at z;cases E:aV.run (m.full+1) m with
   |none=>grind
   |some b=>
    obtain⟨d,T⟩:=b;rw[E] at e;cases e;have j:=QD z (tS _) E;have L:=(yO h (λa=>c.getD a ho) t (l:=l));rw[s] at L;have K:m.rows.take m.full=jD l (λa=>c.getD a ho) t:=(by grind);have H:m.rows.drop m.full=kH l t:=(by grind);have q:∀a,a<t->(c++[d]).getD a ho=c.getD a ho:=λa g=>(by rw[lR,lR,qC aa]);have r:(c++[d]).getD t ho=d:=(by grind);have Q:=EY y x (aa:t<l.length);refine⟨by grind,⟨?_,?_,?_,?_,?_,?_⟩⟩
    ·intro a g;dsimp only;rcases cl a t with b|b
     ·rw[q a b];exact f.w a b
     obtain rfl:a=t:=aa;rw[r];exact j.w
    ·intro a g;dsimp only;rcases cl a t with b|b
     ·rw[q a b];exact f.rest a b
     obtain rfl:a=t:=aa;rw[r,j.rest,H]
    ·rw[SU (by grind),qB,qB];have aq:((bI t).filter λa=>br (gg l a=-1\/(t:Z)<gg l a)).flatMap (kb λa=>(c++[d]).getD a ho)=((bI t).filter λa=>br (gg l a=-1\/(t:Z)<gg l a)).flatMap (kb λa=>c.getD a ho):=by
      refine MU λa g=>?_;show((c++[d]).getD a ho).rows.take ((c++[d]).getD a ho).full=(c.getD a ho).rows.take (c.getD a ho).full;grind
     have F:List.flatMap (kb λa=>(c++[d]).getD a ho) [t]=d.rows.take d.full:=(by show(((c++[d]).getD t ho).rows.take ((c++[d]).getD t ho).full)++[]=_;grind);rw[aq,F];have I:=j.perm;rw[K] at I;refine List.Perm.trans ?_ (f.BS p);grind
    ·intro a g J;dsimp only;rcases cl a t with b|b
     ·rw[q a b];exact f.root a b J
     obtain rfl:a=t:=aa;rw[r];refine j.whole z ?_;have:kH l a=[]:=List.eq_nil_iff_forall_not_mem.2 λO P=>(by grind [As]);grind
    ·intro b A;rcases h9.1 A with v|v
     ·exact f.eM b v
     have B:=j.eM b v;exact{B with sub:=λk i=>iq.2 (f.yN h p (by rw[s];exact B.sub k i))}
    intro a g k i;dsimp only at i;rcases cl a t with b|b
    ·rw[q a b] at i;exact f.A3 a b k i
    obtain rfl:a=t:=aa;rw[r] at i;exact f.yN h p (by rw[s];exact j.sub k i)
theorem jM.fl {b:X->aV} {h:bm a8} (d:jM l n a b h) {c:X} (e:c<a):(b c).full<=n/\(b c).rows.length<=n:=by have i:=(d.w c e).nd.length_le_of_subset (l₂:=bI n) λg f=>iq.2 (d.A3 c e g f);have j:=(d.w c e).full;grind
def jM.all {b:X->aV} {h:bm a8} (g:hq G l) (f:G.length=n) (d:jM l n l.length b h):(h.flatMap a8.cF).Perm (bI n):=by
 have e:=d.perm;have j:(pM l l.length).flatMap (kb b)=[]:=List.flatMap_eq_nil_iff.2 λi k=>by
  obtain⟨a,c⟩:=ht.1 k;have a:=iq.1 a;have c:=of_decide_eq_true c;rcases EY g f a with⟨m,_⟩|⟨o,p,_,q,_⟩
  ·unfold kb;rw[(d.root i a m).1,List.take_nil]
  omega
 rw[j,mK,g.1.2,f] at e;exact e
end
def D1 {G:ew} {l:bm df} (c:hq G l):l.length<=G.length:=by
 have:∀a,a<=l.length->a<=bd l a:=by
  intro a
  induction a with
  |zero=>omega
  |succ a d=>
   intro e;have:=d aa;have:=(iD.of c bn (aa:a<l.length)).BW;omega
 have b:=this l.length (bc _);rw[c.1.2] at b;exact b
end
theorem Mm (b:cM O):Ca (ay O,d,())=Y (k5 O d,()):=by
 unfold Ca;refine ai (Ho b) ?_;dsimp only;rw[q9];cases O with
 |none=>rfl
 |some a=>
  have c:=b a bn;have i:=j1 c;have f:=ke c;refine ai (oX b) ?_;dsimp only;show(bif gB a==0 then _ else _)=_;rw[iV];unfold k5 x1;by_cases e:a=0
  ·grind
  rw[aI e];simp only;rw[az e,bP];have h:0<(cH a).natAbs:=(by grind [js]);refine ai (y:=(oY (br (a<0)) (cH a).natAbs (hA a) bq,())) ?_ ?_
  ·unfold GP;rw[hn];refine ai (BK (jF aa)) ?_;simp_all [az,xO,oY,c7]
  have g:c7 a=hA a:=(by unfold c7;omega);rw[g] at f;exact ai (Qu aa h aa aa) rfl
theorem S5 (a:eP d):BM bE d 9223372036854775808=d %9223372036854775808:=by obtain⟨b,rfl⟩:=gh a.1;have c:b<18446744073709551616:=(by have:=a.2;omega);unfold BM;rw[show bE.bits=64 from rfl,BitVec.toNat_and,TJ c,(ab:(~~~ck 64 9223372036854775808).toNat=2^63-1),alW];grind [Bm,Nat.mod_lt]
theorem ML (a:eP d) (e:cE d≠2047):eP (d %9223372036854775808)/\a6 (d %9223372036854775808)=pL (a6 d):=by have g:=a.1;have h:=a.2;have aq:cE (d %9223372036854775808)=cE d:=(by grind [cE]);have f:gr (d %9223372036854775808)=gr d:=(by grind [gr]);refine⟨⟨aa,aa⟩,?_⟩;rw[xP aa,xP e];have b:oZ (d %9223372036854775808)=oZ d:=(by grind [oZ]);have i:=xi d;have c:nJ (d %9223372036854775808)=((nJ d).natAbs:Z):=(by unfold nJ;omega);rw[b,c];show Y _=Y (((nJ d*2^(oZ d+65536).toNat).natAbs:X):Z);grind [mv]
theorem Vy (b:eP d) (f:cE d≠2047):Cb ([d],())=Y (bq,()):=by
 unfold Cb;refine bQ.1 ?_;dsimp only;refine bD (P:=λc=>c=.inl ()) ?_ (by grind [bu]);refine bL 1 (λa e=>e=((a:Z),())) rfl ?_ ?_
 ·rintro a _ g rfl;obtain rfl:a=0:=aa;dsimp only;rw[aY (by rfl)];refine bz (y:=d) rfl (bz (WC b) ?_);dsimp only;rw[a1 (by
   rw[gK];refine aI ?_;unfold k1;omega)]
  exact bu.2 bn
 rintro _ rfl;dsimp only;rw[a1 (by rfl)];grind [bu]
theorem HE (b:eP d) (a:cE d≠2047):wN (d,())=Y (d %9223372036854775808,()):=by simp_all [bP,S5,ai,Vy,wN]
section
def fd (R:aie) (lf:aib) (b:X):aie:=((bI b).filter λa=>lf.getD a bq).map λa=>R.getD a 0
theorem xB (R:aie) (lf:aib) (a:X):fd R lf (a+1)=if lf.getD a bq=bp then fd R lf a++[R.getD a 0] else fd R lf a:=by unfold fd;rw[i7,pq,n0,ald];grind
structure iY (R:aie) (full:X) (lf:aib) (M:bm (bm fX)) (x:aV):Prop where
 ll:lf.length=R.length
 nd:R.Nodup
 sm:R.length<=1000
 fl:full<=R.length
 rows:x.rows=fd R lf R.length
 full:x.full=(fd R lf full).length
 okd:x.okd
 ent:∀i j,i<R.length->j<R.length->lf.getD i bq=bp->lf.getD j bq=bp->∃row,M[i]?=Y row/\row[j]?=Y (ay (x.s (R.getD i 0) (R.getD j 0)))
section
variable {R:aie} {full:X} {lf:aib} {M:bm (bm fX)} {x:aV}
def cD (R:aie) (full:X) (lf:aib) (M:bm (bm fX)):c4:=(a5 R,(full:Z),lf,M,())
theorem Iq (d:a<b) (c:lf.getD a bq=bp):R.getD a 0∈fd R lf b:=eZ.2 ⟨a,ht.2 ⟨iq.2 d,c⟩,bn⟩
theorem iY.mem (b:iY R full lf M x) (c:a<R.length) (d:lf.getD a bq=bp):R.getD a 0∈x.rows:=by rw[b.rows];grind [Iq]
theorem iY.value (c:iY R full lf M x) (d:a<R.length) (e:b<R.length) (f:lf.getD a bq=bp) (g:lf.getD b bq=bp):sw (Y (cD R full lf M),(a:Z),(b:Z),())=Y (x.bh (R.getD a 0) (R.getD b 0),()):=by
 obtain⟨i,h,j⟩:=c.ent a b d e f g;unfold sw;refine ai (y:=cD R full lf M) rfl (ai (y:=i) ?_ (ai (y:=ay (x.s (R.getD a 0) (R.getD b 0))) ?_ (ai (Mm (c.okd _ (c.mem d f) _ (c.mem e g))) rfl)))
 ·rw[ff];exact h
 grind [ff]
theorem iY.inj (a:iY R full lf M x) {i j:X} (b:i<R.length) (c:j<R.length):R.getD i 0=R.getD j 0↔i=j:=by rw[lR,ba b,lR,ba c];exact qF a.nd
theorem TW:br (fE d k>0)=br (k<d):=by rw[cy];grind [absurd,fE]
theorem iY.Nd (i:iY R full lf M x) (H:a<R.length) (T:lf.getD a bq=bp):ae (zm (Y (cD R full lf M),(a:Z),())) λr=>
  (x.fin (R.getD a 0)/\∃e:aia,r=(ay (Y (x.fg (R.getD a 0)).1),pO e,0,())/\(∀c,e=Y c->c<R.length/\lf.getD c bq=bp/\(x.fg (R.getD a 0)).2=Y (R.getD c 0))/\(e=bo->(x.fg (R.getD a 0)).2=bo))\/
  (¬x.fin (R.getD a 0)/\r.2.2.1=233):=by
 obtain⟨s,o⟩:∃s:X,s=65536:=⟨_,bn⟩;have F:al (cD R full lf M).1=(R.length:Z):=(by rw[bf];exact b4 _ (fH _));have ap:=i.sm;have an:=i.ll;generalize B:R.getD a 0=d;unfold zm;refine bz (zU ab ab) ?_;have J:jq 0=Y 0:=rfl;rw[J];refine bz (y:=cD R full lf M) rfl ?_;refine bD (P:=λf=>(x.fin d/\∃(e:aia) (g:cV),f=.inl (pO e,g,ay (Y (x.fg d).1),())/\(∀c,e=Y c->c<R.length/\lf.getD c bq=bp/\(x.fg d).2=Y (R.getD c 0))/\(e=bo->(x.fg d).2=bo))\/(¬x.fin d/\∃j t,f=.inr (j,t,233,()))) ?_ ?_
 rotate_left
 ·grind [bu]
 refine bL R.length (λb f=>(∀h∈fd R lf b,cE (x.bh h d)≠2047)/\∃(e:aia) (g:cV),f=(pO e,(b:Z),g,ay (Y (e8 (λc=>x.av c d) d (fd R lf b) (0,bo)).1),())/\(∀c,e=Y c->c<R.length/\lf.getD c bq=bp/\(e8 (λc=>x.av c d) d (fd R lf b) (0,bo)).2=Y (R.getD c 0))/\(e=bo->(e8 (λc=>x.av c d) d (fd R lf b) (0,bo)).2=bo)) ?_ ?_ ?_
 ·refine⟨by simp[fd],bo,_,bn,?_,λ_=>rfl⟩;grind
 rotate_left
 ·rintro _ ⟨q,e,g,rfl,n,k⟩;dsimp only;rw[F,a1 (aI (aa:¬(R.length:Z)<(R.length:Z)))];rw[<-i.rows] at q n k|-;exact bu.2 (.inl ⟨q,e,g,bn,n,k⟩)
 rintro b _ u ⟨q,e,g,rfl,n,k⟩;dsimp only;rw[F,aY (aL (aa:(b:Z)<(R.length:Z))),bi aa];have N:ao (cD R full lf M).2.2.1 (b:Z)=Y (lf.getD b bq):=(by rw[ff];show lf[b]?=_;grind);have C:cS s 1074 1024 1 (Y (e8 (λc=>x.av c d) d (fd R lf b) (0,bo)).1):=HX (λh E=>x.sj o (q h E)) cS.zero;rw[xB];refine bD (P:=λf=>((∀h∈(if lf.getD b bq=bp then fd R lf b++[R.getD b 0] else fd R lf b),cE (x.bh h d)≠2047)/\∃(e:aia) (g:cV),f=.inl (pO e,g,ay (Y (e8 (λc=>x.av c d) d (if lf.getD b bq=bp then fd R lf b++[R.getD b 0] else fd R lf b) (0,bo)).1),())/\(∀c,e=Y c->c<R.length/\lf.getD c bq=bp/\(e8 (λc=>x.av c d) d (if lf.getD b bq=bp then fd R lf b++[R.getD b 0] else fd R lf b) (0,bo)).2=Y (R.getD c 0))/\(e=bo->(e8 (λc=>x.av c d) d (if lf.getD b bq=bp then fd R lf b++[R.getD b 0] else fd R lf b) (0,bo)).2=bo))\/(¬x.fin d/\∃j t,f=.inr (.inr (.inr (j,t,233,()))))) ?_ ?_
 rotate_left
 ·grind [bu]
 refine bz (y:=cD R full lf M) rfl (bz N ?_);cases A:lf.getD b bq with
 |false=>
  rw[aY (by rfl),az ab];grind [bu]
 |true=>
 rw[a1 (by rfl),cb bn];have I:=i.value u H A T;rw[B] at I;have p:=x.k4 (R.getD b 0) d;refine bz I (bz (Af p) ?_);dsimp only;by_cases f:cE (x.bh (R.getD b 0) d)=2047
 ·rw[aY (by grind)];exact bu.2 (.inr ⟨λS=>S _ (i.mem u A) f,_,_,bn⟩)
 rw[a1 (by grind)];have L:∀h∈fd R lf b++[R.getD b 0],cE (x.bh h d)≠2047:=λh E=>(by grind);have O:e8 (λc=>x.av c d) d (fd R lf b++[R.getD b 0]) (0,bo)=if R.getD b 0=d then e8 (λc=>x.av c d) d (fd R lf b) (0,bo) else if(e8 (λc=>x.av c d) d (fd R lf b) (0,bo)).2=bo\/(e8 (λc=>x.av c d) d (fd R lf b) (0,bo)).1<x.av (R.getD b 0) d then(x.av (R.getD b 0) d,Y (R.getD b 0)) else e8 (λc=>x.av c d) d (fd R lf b) (0,bo):=by rw[xp,e8,e8]
 rw[O];generalize e8 (λc=>x.av c d) d (fd R lf b) (0,bo)=j at*;obtain⟨l,w⟩:=j;dsimp only at n k C|-;have D:R.getD b 0=d↔b=a:=(by rw[<-B];exact i.inj u H);by_cases z:b=a
 ·rw[aY (by grind),au (D.2 z)];grind [bu]
 rw[a1 (by grind),cn (mt D.1 z)];obtain⟨U,V⟩:=ML p f;have ad:=x.Gr f;have K:=x.sj o f;have G:jT (x.bh (R.getD b 0) d %9223372036854775808,())=Y (ay (Y (x.av (R.getD b 0) d)),()):=(by grind [qb]);refine bz (HE p f) (bz G (bz (Mf (K.lG o ab ab) (C.lG o ab ab)) ?_));dsimp only;have Q:e=bo↔w=bo:=by
  constructor
  ·exact k
  intro am;cases e with
  |none=>rfl
  |some c=>
   grind
 refine bD (P:=λr=>r=(br (w=bo\/l<x.av (R.getD b 0) d),g,ay (Y l),())) ?_ ?_
 ·rw[TW];by_cases m:l<x.av (R.getD b 0) d
  ·simp_all [aL,bu,a1]
  rw[aY (by grind)];refine bu.2 ?_;have:br (pO e<0)=br (w=bo\/l<x.av (R.getD b 0) d):=by
   rw[cy];cases e with
   |none=>exact⟨λ_=>.inl (Q.1 bn),λ_=>by decide⟩
   |some c=>
    constructor
    ·intro v;have:((c:X):Z)<0:=v;omega
    grind
  grind
 rintro _ rfl;dsimp only;rw[cO];refine aim (λm=>?_) (λm=>?_)
 ·rw[au m];refine bz (HE p f) (bz G ?_);refine bu.2 (.inl ⟨L,Y b,g,bn,?_,λv=>by cases v⟩);grind
 rw[az m];grind [bu]
end
end
section
theorem Ij (c:cM (Y d)) (e:cM (Y k)) (a:fI (64*d)) (b:fI (41*k)):wV (ay (Y d),ay (Y k),())=Y (br (41*k<=64*d),()):=by unfold wV;refine ai (zU ab ab) (ai (p0 (u3 _) c) (ai (zU ab ab) (ai (p0 (u3 _) e) ?_)));rw[EF ab a,EF ab b];refine ai (Mf a b) ?_;dsimp only;have:br (fE (64*d) (41*k)>=0)=br (41*k<=64*d):=(by rw[cy];grind [absurd,fE]);grind
section
variable {R:aie} {full:X} {lf:aib} {M:bm (bm fX)} {x:aV}
def mA (R:aie) (lf:aib) (c b:X):aie:=((ain c b).filter λa=>lf.getD a bq).map λa=>R.getD a 0
theorem ac1 (R:aie) (lf:aib) (a b:X):mA R lf a (b+1)=if lf.getD a bq=bp then R.getD a 0::mA R lf (a+1) b else mA R lf (a+1) b:=by grind [List.range'_succ,mA]
theorem Io (R:aie) (lf:aib) (a:X):∀d,∃b,fd R lf (a+d)=fd R lf a++b
 |0=>⟨[],ac⟩
 |d+1=>by obtain⟨b,c⟩:=Io R lf a d;grind [aiQ,ajL,xB]
def iY.take (a:iY R full lf M x):x.rows.take x.full=fd R lf full:=by have:=a.fl;obtain⟨c,b⟩:=Io R lf full (R.length-full);rw[a.rows,a.full,(aa:R.length=full+(R.length-full)),b,List.take_left'];rfl
theorem iY.N8 (a:iY R full lf M x) {k:X} (e:k<R.length) (f:lf.getD k bq=bp):R.getD k 0∈x.rows.take x.full↔k<full:=by
 have:=a.fl;rw[a.take];constructor
 ·intro c;unfold fd at c;obtain⟨g,b,d⟩:=eZ.1 c;have b:=iq.1 (ht.1 b).1;have:=(a.inj aa e).1 d;omega
 grind [Iq]
def iY.Mh (h:iY R full lf M x) (d:a<R.length) (e:lf.getD a bq=bp) (b:cE (x.bh (R.getD a 0) (R.getD a 0))≠2047):zj (Y (cD R full lf M),(a:Z),())=Y (ay (Y (x.av (R.getD a 0) (R.getD a 0))),()):=by have c:=x.k4 (R.getD a 0) (R.getD a 0);obtain⟨f,g⟩:=ML c b;unfold zj;refine ai (h.value d d e e) (ai (HE c b) (ai (y:=(ay (Y (x.av (R.getD a 0) (R.getD a 0))),())) ?_ bn));rw[qb f,g,x.Gr b]
def FL (x:aV) (R:aie) (full:X) (lf:aib) (c:aie) (d:aif×Z×bt):Prop:=(d.2.1=233/\x.gL c=bo)\/∃b:aie,d=(a5 b,0,())/\(∀a∈b,a<full/\lf.getD a bq=bp)/\x.gL c=Y (b.map λa=>R.getD a 0)
theorem iY.choose (e:iY R full lf M x):ae (Cy (Y (cD R full lf M),())) λk=>FL x R full lf (x.rows.take x.full) k:=by
 obtain⟨D,c⟩:∃D:X,D=65536:=⟨_,bn⟩;have d2:=e.sm;have ds:=e.fl;have d0:=e.ll;rw[e.take];have a0:fd R lf full=mA R lf 0 full:=(by unfold fd mA;rw[amc]);rw[a0];unfold Cy;refine bz (y:=cD R full lf M) rfl ?_;refine bD (P:=λd=>(d=.inl ()/\x.gL (mA R lf 0 full)=Y [])\/∃k,d=.inr k/\FL x R full lf (mA R lf 0 full) k) ?_ ?_
 rotate_left
 ·rintro _ (⟨rfl,e⟩|⟨k,rfl,e⟩)
  ·exact bu.2 (.inr ⟨[],bn,ac,e⟩)
  grind [bu]
 refine bL full (λb cs=>cs=((b:Z),())/\x.gL (mA R lf 0 full)=x.gL (mA R lf b (full-b))) ⟨bn,bn⟩ ?_ ?_
 rotate_left
 ·rintro _ ⟨rfl,l⟩;dsimp only;rw[a1 (aI (show¬(full:Z)<(cD R full lf M).2.1 from Int.lt_irrefl _))];refine bu.2 (.inl ⟨bn,?_⟩);rw[l,Nat.sub_self];rfl
 rintro b _ d1 ⟨rfl,l⟩;dsimp only;have z:b<R.length:=aa;rw[aY (aL (show(b:Z)<(cD R full lf M).2.1 by show(b:Z)<(full:Z);omega)),bi aa];rw[(aa:full-b=full-(b+1)+1),ac1] at l;refine bD (P:=λd=>(d=.inl ()/\x.gL (mA R lf 0 full)=x.gL (mA R lf (b+1) (full-(b+1))))\/∃k,d=.inr (.inr (.inr k))/\FL x R full lf (mA R lf 0 full) k) ?_ ?_
 rotate_left
 ·grind [bu]
 have bl:ao (cD R full lf M).2.2.1 (b:Z)=Y (lf.getD b bq):=(by rw[ff];show lf[b]?=_;grind);refine bz (y:=cD R full lf M) rfl (bz bl ?_);cases o:lf.getD b bq with
 |false=>
  rw[o,az ab] at l;rw[aY (by rfl)];grind [bu]
 |true=>
 rw[o,au bn] at l;rw[a1 (by rfl)];refine bD (e.Nd z o) ?_;have G:=e.mem z o;generalize F:R.getD b 0=a at*;rintro⟨am,an,ap,_⟩ (⟨j,cv,i,ci,co⟩|⟨j,i⟩)
 rotate_left
 ·dsimp only at i;subst i;dsimp only;rw[aY (by rfl)];refine bu.2 (.inr ⟨_,bn,.inl ⟨bn,?_⟩⟩);rw[l,aV.gL,cb j]
 cases i;dsimp only;rw[a1 (by rfl)];have I:=e.Mh z o (by rw[F];exact j a G);rw[F] at I;refine bz I ?_;dsimp only;have t:=x.Ea c j;have w:=x.sj c (j a G);have u:cM (Y (x.fg a).1):=λp g=>(by cases g;exact t.lG c ab ab);have K:cM (Y (x.av a a)):=λp g=>(by cases g;exact w.lG c ab ab);refine bD (P:=λd=>d=if(x.fg a).1=0\/41*(x.fg a).1<=64*x.av a a then .inr (.inr (.inr (.inr ([(b:Z)],0,())))) else .inl (ay (Y (x.fg a).1),ay (Y (x.av a a)),())) ?_ ?_
 ·refine bD (P:=λd=>d=(br ((x.fg a).1=0\/41*(x.fg a).1<=64*x.av a a),ay (Y (x.fg a).1),ay (Y (x.av a a)),())) ?_ ?_
  ·refine bz (oX u) ?_;dsimp only;by_cases q:(x.fg a).1=0
   ·rw[a1 (by show((gB (x.fg a).1==0)==bq)=bq;grind [iV,aL])];grind [aL,bu]
   rw[aY (by show((gB (x.fg a).1==0)==bq)=bp;grind [iV,aI])];refine bz (Ij K u (w.ox c ab ab ab) (t.ox c ab ab ab)) ?_;simp_all [cy,bu]
  rintro _ rfl;dsimp only;rw[cO];refine aim (λq=>?_) (λq=>?_)
  ·rw[au q];grind [bu]
  rw[az q];grind [bu]
 rintro _ rfl;by_cases r:(x.fg a).1=0\/41*(x.fg a).1<=64*x.av a a
 ·rw[au r];refine bu.2 (.inr ⟨_,bn,.inr ⟨[b],bn,by grind,?_⟩⟩);simp_all [az,aii,au,r3,aV.gL]
 rw[cn r];dsimp only;refine bz (y:=cD R full lf M) rfl ?_;cases cv with
 |none=>exact absurd (.inl (HY (co bn)).2) r
 |some h=>
  obtain⟨s,v,bx⟩:=ci h bn;have J:=e.N8 s v;have H:=e.mem s v;have a4:=e.Nd s v;have a3:=λj=>e.Mh s v j;generalize dl:R.getD h 0=f at*;have m:x.gL (a::mA R lf (b+1) (full-(b+1)))=if f∉x.rows.take x.full then x.gL (mA R lf (b+1) (full-(b+1))) else if¬x.fin f then bo else
   if 41*((x.fg a).1*(x.fg a).1)<=64*(x.av a a*(x.fg f).1) then Y [a] else
   if 41*(x.fg f).1<=64*x.av f f then Y [f] else Y [a,f]:=by
   rw[aV.gL,az (aii j),az r,bx]
  replace m:=l.trans m;show ae (bif br ((h:Z)>=(cD R full lf M).2.1) then _ else _) _;by_cases E:h<full
  rotate_left
  ·rw[aY (aL (show(h:Z)>=(cD R full lf M).2.1 by show(full:Z)<=(h:Z);omega))];exact bu.2 (.inl ⟨bn,m.trans (au (mt J.1 E))⟩)
  rw[a1 (aI (show¬(h:Z)>=(cD R full lf M).2.1 by show¬(full:Z)<=(h:Z);omega))];rw[az (aii (J.2 E))] at m;refine bD a4 ?_;rintro⟨am,an,ap,_⟩ (⟨n,d3,i,_,_⟩|⟨n,i⟩)
  rotate_left
  ·dsimp only at i;subst i;dsimp only;rw[aY (by rfl)];exact bu.2 (.inr ⟨_,bn,.inl ⟨bn,m.trans (cb n)⟩⟩)
  cases i;dsimp only;rw[a1 (by rfl)];rw[cn (aii n)] at m;have A:=x.Ea c n;have L:=x.sj c (n f H);have N:cM (Y (x.fg f).1):=λp g=>(by cases g;exact A.lG c ab ab);have ce:cM (Y (x.av f f)):=λp g=>(by cases g;exact L.lG c ab ab);obtain⟨B,_,_,c1,aq,U,O,Q⟩:=cS.mul c w A ab ab ab;obtain⟨C,_,_,c2,V,ad,S,T⟩:=cS.mul c t t ab ab ab;cases aq;cases U;cases V;cases ad;rw[O] at B;rw[S] at C;refine bz (p0 K N) (bz (p0 u u) ?_);rw[O,S];refine bz (Ij (λp g=>by cases g;exact B.lG c ab ab) (λp g=>by cases g;exact C.lG c ab ab) (B.ox c ab ab ab) (C.ox c ab ab ab)) ?_;dsimp only;rw[cO];refine aim (λd=>?_) (λd=>?_)
  ·rw[EE T Q] at d;refine bu.2 (.inr ⟨_,bn,.inr ⟨[b],bn,by grind,?_⟩⟩);grind
  rw[EE T Q] at d;rw[cn d] at m;refine bz (a3 (n f H)) (bz (Ij ce N (L.ox c ab ab ab) (A.ox c ab ab ab)) ?_);dsimp only;rw[cO];refine aim (λd=>?_) (λd=>?_)
  ·refine bu.2 (.inr ⟨_,bn,.inr ⟨[h],bn,by grind,?_⟩⟩);grind
  refine bu.2 (.inr ⟨_,bn,.inr ⟨[b,h],bn,?_,?_⟩⟩)
  ·grind
  grind
end
end
def eV (lf:aib) (a:X):aie:=(bI a).filter λb=>lf.getD b bq
theorem Eo (lf:aib) (a:X):eV lf (a+1)=if lf.getD a bq=bp then eV lf a++[a] else eV lf a:=by unfold eV;rw[i7,pq,n0,ald];grind
def In (lf:aib) (a:X):(eV lf a).length<=a:=ez (kO _ _) ac
theorem Ep (a:aie) (lf:aib) (b:X):fd a lf b=(eV lf b).map λc=>a.getD c 0:=rfl
theorem P8 {lf:aib} {c:bm (bm fX)} (j:lf.length=e.length) (k:e.length<=1000):zn (Y (cD e a lf c),())=Y (a5 (eV lf e.length),()):=by
 have f:al (cD e a lf c).1=(e.length:Z):=(by rw[bf];exact b4 _ (fH _));unfold zn;refine bQ.1 ?_;refine bz (y:=cD e a lf c) rfl ?_;refine bD (P:=λd=>d=(a5 (eV lf e.length),())) ?_ (by grind [bu]);refine bL e.length (λb d=>d=((b:Z),a5 (eV lf b),())) rfl ?_ ?_
 ·rintro b _ i rfl;dsimp only;rw[f,aY (aL (aa:(b:Z)<(e.length:Z))),bi aa];have g:ao (cD e a lf c).2.2.1 (b:Z)=Y (lf.getD b bq):=by
   rw[ff];show lf[b]?=_;grind
  refine bD (P:=λd=>d=(a5 (eV lf (b+1)),())) ?_ (by grind [bu]);refine bz (y:=cD e a lf c) rfl (bz g ?_);have:=In lf b;rw[Eo];cases h:lf.getD b bq with
  |false=>
   rw[bP,az ab];grind [bu]
  |true=>
   rw[bG,au bn,dc (by grind [fH]),aD];refine bu.2 ?_;rw[oq];rfl
 rintro _ rfl;dsimp only;rw[f,a1 (aI (aa:¬(e.length:Z)<(e.length:Z)))];grind [bu]
theorem acU {a:et} (e:∀b∈a,cM b) (f:cM O) (h:a.length<=1000):oW (a.map ay,ay O,())=Y (a.map (λb=>ay (cT b O)),()):=by
 unfold oW;refine bQ.1 ?_;dsimp only;refine bD (P:=λd=>d=(a.map (λb=>ay (cT b O)),())) ?_ (by grind [bu]);refine bL a.length (λc d=>d=((c:Z),(a.take c).map (λb=>ay (cT b O)),())) rfl ?_ ?_
 ·rintro c _ g rfl;dsimp only;rw[aY (aL (show(c:Z)<al (a.map ay) by grind)),bi aa];refine bz (y:=ay a[c]) (by grind [ff,bS]) ?_;refine bz (p0 (e _ (b7 g)) f) ?_;grind [cr,bS,bu,dc]
 rintro _ rfl;dsimp only;rw[a1 (aI (show¬(a.length:Z)<al (a.map ay) by grind)),cA];grind [bu]
def eF (a:X) (E:X->X->fX):bm (bm fX):=aB a λb=>aB a (E b)
theorem XG {E:X->X->fX} (j:a<h) (k:b<h) (f:fX):∃e,(eF h E)[a]?=Y e/\e.length=h/\e[b]?=Y (E a b)/\(eF h E).set a (e.set b f)=eF h λc d=>if c=a/\d=b then f else E c d:=by
 refine⟨_,jn j,cX _ _,jn k,?_⟩;unfold eF;rw[hB,hB];refine db λc l=>?_;by_cases g:c=a
 ·subst g;rw[gH];refine db λd m=>?_;by_cases i:d=b
  ·subst i;rw[gH];grind
  simp_all [hb,az]
 simp_all [hb,db,az]
def kf (c:aie) (f:X->X->ah9) (g h:X->ah9) (E:X->X->fX) (d e:X):X->X->fX:=λa b=>
 if(a∈c.take d/\b∈c)\/(c[d]?=Y a/\b∈c.take e) then ay (cK (f a b) (c9 (cT (g a) (h b)))) else E a b
theorem Q3 {R:aie} {full:X} {lf:aib} {E:X->X->fX} {l:aie} {s:X->X->ah9} {u v:X->ah9} (S:a<=1000) (w:∀J∈l,J<a) (T:l.Nodup) (O:l.length<=1000) (N:∀c∈l,∀e∈l,E c e=ay (s c e)) (G:∀c∈l,∀e∈l,cM (s c e)) (H:∀c∈l,cM (u c)) (I:∀c∈l,cM (v c)):pW (cD R full lf (eF a E),a5 l,l.map (λc=>ay (u c)),l.map (λc=>ay (v c)),())=Y (cD R full lf (eF a λc e=>if c∈l/\e∈l then ay (cK (s c e) (c9 (cT (u c) (v e)))) else E c e),()):=by
 have x:al (a5 l)=(l.length:Z):=(by rw[bf,fH]);have q:∀b,(z:b<l.length)->ao (a5 l) (b:Z)=Y ((l[b]:X):Z):=λb g=>(by rw[ff];show(l.map λ(M:X)=>(M:Z))[b]?=_;grind);have y:∀(h:X->ah9) b,(z:b<l.length)->ao (l.map λc=>ay (h c)) (b:Z)=Y (ay (h l[b])):=λh b g=>(by grind [ff,bS]);unfold pW;refine bQ.1 ?_;dsimp only;refine bD (P:=λf=>f=(cD R full lf (eF a (kf l s u v E l.length 0)),())) ?_ ?_
 rotate_left
 ·rintro _ rfl;refine bu.2 ?_;have:eF a (kf l s u v E l.length 0)=eF a λc e=>if c∈l/\e∈l then ay (cK (s c e) (c9 (cT (u c) (v e)))) else E c e:=by
   unfold eF kf;grind
  grind
 refine bL l.length (λb f=>f=((b:Z),cD R full lf (eF a (kf l s u v E b 0)),())) ?_ ?_ ?_
 ·grind [db,eF,kf]
 rotate_left
 ·rintro _ rfl;dsimp only;rw[x,a1 (aI (aa:¬(l.length:Z)<(l.length:Z)))];grind [bu]
 rintro b _ g rfl;dsimp only;rw[x,aY (aL (aa:(b:Z)<(l.length:Z))),bi aa];have k:=b7 g;have B:=w _ k;refine bz (q b g) ?_;refine bD (P:=λf=>f=(cD R full lf (eF a (kf l s u v E b l.length)),())) ?_ ?_
 rotate_left
 ·rintro _ rfl;refine bu.2 ?_;have:eF a (kf l s u v E b l.length)=eF a (kf l s u v E (b+1) 0):=by
   unfold eF kf;refine db λc _=>db λe _=>?_;have:(c∈l.take b/\e∈l\/l[b]?=Y c/\e∈l.take l.length)↔(c∈l.take (b+1)/\e∈l\/l[b+1]?=Y c/\e∈l.take 0):=(by rw[hP,hx,ba g];grind);grind
  grind
 refine bL l.length (λd f=>f=((d:Z),cD R full lf (eF a (kf l s u v E b d)),())) rfl ?_ ?_
 rotate_left
 ·rintro _ rfl;dsimp only;rw[a1 (aI (aa:¬(l.length:Z)<(l.length:Z)))];grind [bu]
 rintro d _ j rfl;dsimp only;rw[aY (aL (aa:(d:Z)<(l.length:Z))),bi aa];have m:=b7 j;have C:=w _ m;have V:l[b]∉l.take b:=λD=>(by grind [ajC,aj0]);have U:l[d]∉l.take d:=λD=>(by grind [ajC,aj0]);have F:kf l s u v E b d l[b] l[d]=ay (s l[b] l[d]):=(by simp_all [cn,kf]);obtain⟨K,o,ad,dd,L⟩:=XG (E:=kf l s u v E b d) B C (ay (cK (s l[b] l[d]) (c9 (cT (u l[b]) (v l[d])))));rw[F] at dd;have Q:(eF a (kf l s u v E b d)).length=a:=cX _ _;have A:(cD R full lf (eF a (kf l s u v E b d))).2.2.2.1=eF a (kf l s u v E b d):=rfl;have r:=eU (n:=(eF a (kf l s u v E b d)).length) (i:=l[b]) aa;have t:=eU (n:=K.length) (i:=l[d]) aa;refine bz (q d j) ?_;rw[A];refine bz r (bz r ?_);rw[gj o,bM];refine bz t ?_;rw[gj o,gj dd,bM];refine bz (y u b g) (bz (y v d j) (bz (p0 (H _ k) (I _ m)) (bz (Hp (G _ k _ m) (kC _ _)) ?_)));refine bz t ?_;rw[gj o,gj dd];refine bu.2 ?_;dsimp only;rw[L];have:(eF a λc e=>if c=l[b]/\e=l[d] then ay (cK (s l[b] l[d]) (c9 (cT (u l[b]) (v l[d])))) else kf l s u v E b d c e)=eF a (kf l s u v E b (d+1)):=by
  unfold eF kf;refine db λc _=>db λe _=>?_;dsimp only;by_cases p:c=l[b]/\e=l[d]
  ·obtain⟨rfl,rfl⟩:=p;rw[au (show l[b]=l[b]/\l[d]=l[d] from⟨bn,bn⟩),au];grind [akR,aik,cr,bS]
  rw[az p];grind [cr,bS,aik,aju]
 rw[<-this];rfl
section
def gM {α:Type} (l:aie) (f g:X->X->α) (c d a b:X):α:=if(a∈l.take c/\b∈l)\/(l[c]?=Y a/\b∈l.take d) then f a b else g a b
section
variable {α:Type} {l:aie} {f g:X->X->α}
theorem Hg:gM l f g 0 0=g:=by grind [gM]
theorem Hf (c:a<l.length):gM l f g a l.length=gM l f g (a+1) 0:=by funext i b;unfold gM;have:(i∈l.take a/\b∈l\/l[a]?=Y i/\b∈l.take l.length)↔(i∈l.take (a+1)/\b∈l\/l[a+1]?=Y i/\b∈l.take 0):=(by rw[hP,hx,ba c];grind);grind
theorem Hc:gM l f g l.length 0=λa b=>if a∈l/\b∈l then f a b else g a b:=by grind [gM]
theorem He (e:l.Nodup) (c:a<l.length) (d:b<l.length):gM l f g a b l[a] l[b]=g l[a] l[b]:=by unfold gM;rw[az];grind [aj0,ajC]
theorem Hd (h:a<l.length) (i:b<l.length):gM l f g a (b+1)=λc d=>if c=l[a]/\d=l[b] then f l[a] l[b] else gM l f g a b c d:=by
 funext c d;unfold gM;by_cases e:c=l[a]/\d=l[b]
 ·obtain⟨rfl,rfl⟩:=e;rw[au (show l[a]=l[a]/\l[b]=l[b] from⟨bn,bn⟩),au];grind [akR,aik,cr,bS]
 rw[az e];grind [cr,bS,aik,aju]
end
def fM (a:aie) (b:X->X->fX):bm (bm fX):=a.map λc=>a.map λd=>b c d
theorem Kb (a:aie) (b:X->X->fX):(fM a b).length=a.length:=e9 _
theorem Fw (d:X->X->fX) (f:e[h]?=Y a) (g:e[r]?=Y b):∃c,(fM e d)[h]?=Y c/\c.length=e.length/\c[r]?=Y (d a b):=by simp_all [jh,e9,fM]
theorem QM (k:e.Nodup) (h:e[a]?=Y b) (g:X->j) (d:j):(e.map g).set a d=e.map λc=>if c=b then d else g c:=by
 refine hO λi=>?_;rw[wa,jh,jh,e9];have l:a<e.length:=(hH.1 h).1;by_cases f:a=i
 ·grind
 rw[az f];grind [akK]
theorem Kc (i:e.Nodup) (c:X->X->fX) (l:e[b]?=Y a) (m:e[r]?=Y h) (j:fX) {g:bm fX} (n:(fM e c)[b]?=Y g):(fM e c).set b (g.set r j)=fM e λf d=>if f=a/\d=h then j else c f d:=by have k:g=e.map λd=>c a d:=(by grind [ai1,fM]);subst k;rw[QM i m];unfold fM;rw[QM i l];refine h7 λf _=>?_;grind
theorem Rf {a b:X->X->fX} (f:∀c∈e,∀d∈e,a c d=b c d):fM e a=fM e b:=by grind [aiy,fM]
theorem MJ (a:aie) (g:X->j):aB a.length (λb=>g (a.getD b 0))=a.map g:=by unfold aB;refine hO λc=>?_;grind
theorem XH (a:aie) (b:X->X->fX):eF a.length (λc d=>b (a.getD c 0) (a.getD d 0))=fM a b:=by grind [aiy,MJ,fM,aB,eF]
end
section
section
variable {G:ew} {l:bm df} {n t:X} {L:X->aV} {ps:bm a8} {A:X->X->ah9}
theorem yV (l:bm df) (t a:X):eA l (t+1) a=if gg l t=(a:Z) then eA l t a++[t] else eA l t a:=by grind [aiI,gg,eA]
theorem LV (b:X->aie) (a c:X):∀d,((eA l a c).flatMap b).length<=((eA l (a+d) c).flatMap b).length
 |0=>bc _
 |d+1=>by have e:=LV b a c d;grind [aiP,yV]
def jM.Lw (b:jM l n t L ps) (a:iD n l t):(jD l L t).length<=n:=by have c:=(b.BS a).length_eq;rw[jN,nb] at c;have:=a.wF;omega
def jM.LU (c:jM l n t L ps) (e:iD n l t) (g:a<=t):((eA l a t).flatMap (kb L)).length<=n:=by have b:=c.Lw e;unfold jD at b;rw[jN] at b;have d:=LV (l:=l) (kb L) a t (t-a);rw[(aa:a+(t-a)=t)] at d;have f:((eA l t t).flatMap λa=>(L a).rows.take (L a).full).length=((eA l t t).flatMap (kb L)).length:=rfl;omega
theorem XN (b:aie) (a:X):(a5 b).take a=a5 (b.take a):=by grind [amd,a5]
theorem mY (c:a<e.length):ao (a5 e) (a:Z)=Y ((e[a]:X):Z):=by rw[ff];show(e.map λ(b:X)=>(b:Z))[a]?=_;grind
theorem qf (c:a<e.length) (b:Z->bv j):rd (a5 e) (a:Z) b=b ((e[a]:X):Z):=by simp_all [fH,eU,aD,gj,mY,ff,a5,rd]
def k6 (a:aie) (c:X->X->fX) (d b:X):bm fX:=(a.take b).map (c (a.getD d 0))++bJ (a.length-b) (bq,((bq,(([]:aif),())),((0:Z),())))
theorem Qw {c:X->X->fX} (d:a<=e.length):(k6 e c b a).length=e.length:=by grind [aiP,cg,air,List.length_replicate,k6]
theorem Qx {h:X->X->fX} (d:a<e.length):(k6 e h b a).set a (h (e.getD b 0) e[a])=k6 e h b (a+1):=by unfold k6;have c:e.length-a=(e.length-(a+1))+1:=aa;have f:((e.take a).map (h (e.getD b 0))).length=a:=(by grind);rw[ak3 _ _ aa,f,oJ,c,List.replicate_succ,List.set_cons_zero,hx,ba d,ji,i4];rfl
theorem acD {h:X->X->fX} (c:a<e.length) (g:h (e.getD b 0) e[a]=ay (Y 0)):k6 e h b a=k6 e h b (a+1):=by
 rw[<-Qx c,g];refine(hO λi=>?_);rw[wa];by_cases d:a=i
 ·subst d;rw[au bn,Qw aa,au c];unfold k6;have f:((e.take a).map (h (e.getD b 0))).length=a:=(by grind);rw[pu aa,f,oJ,List.getElem?_replicate,au aa];rfl
 grind
theorem ab3 (J:hq G l) (I:G.length=n) (ap:t<l.length) (z:jM l n t L ps) (T:∀a b,cM (A a b)) (f5:n<=100) (f2:l.length<=100) {S:pI} (ce:∀a b:X,a<n->b<n->w8 (S,c,(a:Z),(b:Z),())=Y (ay (A a b),())):DA (S,c,l,(t:Z),(bI t).map (λe=>fP (L e)),())=Y (fP (hR A l L t),()):=by
 have r:=iD.of J I ap;have fp:=z.Lw r;have N:∀e,e<=t->∃j:df,ao l (e:Z)=Y j/\j=((bd l e:Z),(bd l (e+1):Z),gO l (e:Z),gg l e,()):=λe B=>(by have:=(iD.of J I (aa:e<l.length)).g;grind [ff]);have O:∀e,e<t->ao ((bI t).map λe=>fP (L e)) (e:Z)=Y (fP (L e)):=λe B=>(by grind [ff,List.getElem?_range]);have ft:=r.wF;have f7:=r.own;have co:=z.ww T r;have E:=yO A L t (l:=l);have V:∀a∈jD l L t++kH l t,a<n:=λa o=>z.yN A r (by grind);have ci:=z.BT A T r;rw[E.1] at ci;have ad:=co.nd;rw[E.1] at ad;unfold DA;refine bQ.1 ?_;dsimp only;refine bD (P:=λk=>k=(([],((0:Z),([],()))),(a5 ((eA l t t).flatMap (kb L)),((0:Z),([],()))),())) ?_ ?_
 ·refine bL t (λe k=>k=((e:Z),([],((0:Z),([],()))),(a5 ((eA l e t).flatMap (kb L)),((0:Z),([],()))),())) rfl ?_ ?_
  ·rintro e _ B rfl;dsimp only;rw[aY (aL (aa:(e:Z)<(t:Z))),bi aa];obtain⟨j,v,rfl⟩:=N e aa;refine bD (P:=λk=>k=(([],((0:Z),([],()))),(a5 ((eA l (e+1) t).flatMap (kb L)),((0:Z),([],()))),())) ?_ (by grind [bu]);refine bz v ?_;dsimp only;have M:=z.LU r (aa:e+1<=t);rw[yV] at M|-;rw[gK,cO];by_cases p:gg l e=(t:Z)
   ·rw[au p] at M|-;rw[au p];refine bz (O e B) (bz (O e B) ?_);have F:=(z.w e B).full;rw[qB,jN] at M;have f3:(a5 (L e).rows).length=(L e).rows.length:=fH _;refine bz (y:=(0,(L e).full)) ?_ ?_
    ·have eq:(fP (L e)).2.1=((L e).full:Z):=rfl;simp_all [aD,EH,p8,da,fP]
    have bl:((((fP (L e)).1).take (L e).full).drop 0)=a5 (kb L e):=(by show((a5 (L e).rows).take (L e).full).drop 0=_;rw[List.drop_zero,XN];rfl);dsimp only;rw[bl];have fT:(kb L e).length<=n:=(by grind);rw[dc (by grind [fH]),bM];grind [oq,bu]
   rw[az p,az p];grind [bu]
  rintro _ rfl;dsimp only;rw[a1 (aI (aa:¬(t:Z)<(t:Z)))];grind [bu]
 rintro _ rfl;dsimp only;obtain⟨j,v,rfl⟩:=N t (cd _);refine bz v ?_;dsimp only;have fz:=z.LU r (cd t);refine bD (P:=λk=>k=(([],((0:Z),([],()))),(a5 (jD l L t),((0:Z),([],()))),())) ?_ ?_
 ·refine bL (gd l t) (λa k=>k=(((bd l t+a:X):Z),([],((0:Z),([],()))),(a5 ((eA l t t).flatMap (kb L)++ain (bd l t) a),((0:Z),([],()))),())) ?_ ?_ ?_
  ·grind
  ·rintro a _ o rfl;dsimp only;refine bz v ?_;dsimp only;rw[aY (aL (aa:((bd l t+a:X):Z)<(bd l (t+1):Z))),bi aa];rw[dc (by grind [akt,fH,aiP,ame]),bM];refine bu.2 ?_;rw[alj,<-aiQ,oq ((eA l t t).flatMap (kb L)++ain (bd l t) a),Nat.one_mul];rfl
  rintro _ rfl;dsimp only;refine bz v ?_;dsimp only;rw[a1 (aI (aa:¬(((bd l t+gd l t:X):Z)<(bd l (t+1):Z))))];exact bu.2 bn
 rintro _ rfl;dsimp only;have ex:=r.Bz;have f6:=r.OD;rw[show al (a5 (jD l L t))=((jD l L t).length:Z) by rw[bf,fH]];generalize c2:((jD l L t).length:Z)=q;refine bD (P:=λk=>k=(([],((0:Z),([],()))),(a5 (jD l L t++kH l t),(q,([],()))),())) ?_ ?_
 ·refine bL (hE l t) (λa k=>k=((a:Z),([],((0:Z),([],()))),(a5 (jD l L t++(ain (gd l t) (a-gd l t)).map (jt l t)),(q,([],()))),())) ?_ ?_ ?_
  ·grind
  ·rintro a _ o rfl;dsimp only;refine bz v ?_;dsimp only;rw[aY (aL (show(a:Z)<al (gO l (t:Z)) by grind [bf,hE])),bi aa];have am:ao (gO l (t:Z)) (a:Z)=Y ((jt l t a:X):Z):=(by rw[ff];exact r.get a o);refine bD (P:=λk=>k=(([],((0:Z),([],()))),(a5 (jD l L t++(ain (gd l t) (a+1-gd l t)).map (jt l t)),(q,([],()))),())) ?_ (by grind [bu]);refine bz v (bz am (bz v ?_));dsimp only;rcases cl a (gd l t) with p|p
   ·have:=r.ro a p;rw[a1 (aI (aa:¬((jt l t a:X):Z)>=(bd l (t+1):Z))),(aa:a+1-gd l t=a-gd l t)];grind [bu]
   have:=r.Jy a p o;rw[aY (aL (aa:((jt l t a:X):Z)>=(bd l (t+1):Z))),(aa:a+1-gd l t=a-gd l t+1)];refine bz v (bz am ?_);rw[dc (by grind [akt,fH,aiP,cg,ame]),aD];refine bu.2 ?_;rw[alj,ji,<-i4,oq (jD l L t++(ain (gd l t) (a-gd l t)).map (jt l t)),ng,(aa:gd l t+(a-gd l t)=a)];rfl
  rintro _ rfl;dsimp only;refine bz v ?_;dsimp only;rw[a1 (aI (show¬((hE l t:Z)<al (gO l (t:Z))) by grind [bf,hE]))];exact bu.2 bn
 rintro _ rfl;dsimp only;generalize fl:jD l L t++kH l t=d at*;have U:al (a5 d)=(d.length:Z):=(by rw[bf,fH]);have f0:∀a,(a4:a<d.length)->d.getD a 0=d[a]:=λa a4=>(by grind);refine bD (P:=λk=>k=(([],((0:Z),([],()))),(a5 d,(q,(fM d (λa b=>ay (ig A l t a b)),()))),())) ?_ ?_
 ·refine bL d.length (λa k=>k=((a:Z),([],((0:Z),([],()))),(a5 d,(q,((d.take a).map (λa=>d.map λb=>ay (ig A l t a b)),()))),())) rfl ?_ ?_
  ·rintro a _ o rfl;dsimp only;rw[U,aY (aL (aa:(a:Z)<(d.length:Z))),bi aa,h6 aa,bM,dc (by grind),bM];have d1:((d.take a).map (λa=>d.map λb=>ay (ig A l t a b))).length=a:=(by grind);refine bD (P:=λk=>k=(([],((0:Z),([],()))),(a5 d,(q,((d.take a).map (λa=>d.map λb=>ay (ig A l t a b))++[k6 d (λa b=>ay (ig A l t a b)) a d.length],()))),())) ?_ ?_
   ·refine bL d.length (λb k=>k=((b:Z),([],((0:Z),([],()))),(a5 d,(q,((d.take a).map (λa=>d.map λb=>ay (ig A l t a b))++[k6 d (λa b=>ay (ig A l t a b)) a b],()))),())) ?_ ?_ ?_
    ·rfl
    ·rintro b _ u rfl;dsimp only;rw[aY (aL (aa:(b:Z)<(d.length:Z))),bi aa];refine bD (P:=λk=>k=(([],((0:Z),([],()))),(a5 d,(q,((d.take a).map (λa=>d.map λb=>ay (ig A l t a b))++[k6 d (λa b=>ay (ig A l t a b)) a (b+1)],()))),())) ?_ (by grind [bu]);rw[qf o,qf u];have ds:(if((d[b]:X):Z)<((d[a]:X):Z) then((d[b]:X):Z) else((d[a]:X):Z))=((min d[a] d[b]:X):Z):=aa;rw[ds];refine bz (y:=(br (bd l t<=min d[a] d[b]/\min d[a] d[b]<bd l (t+1)),([],((0:Z),([],()))),(a5 d,(q,((d.take a).map (λa=>d.map λb=>ay (ig A l t a b))++[k6 d (λa b=>ay (ig A l t a b)) a b],()))),())) ?_ ?_
     ·refine ai v ?_;dsimp only;by_cases p:bd l t<=min d[a] d[b]
      ·simp_all
      grind
     dsimp only;by_cases p:bd l t<=min d[a] d[b]/\min d[a] d[b]<bd l (t+1)
     ·rw[aY (aL p)];have av:((d.take a).map (λa=>d.map λb=>ay (ig A l t a b))++[k6 d (λa b=>ay (ig A l t a b)) a b])[a]?=Y (k6 d (λa b=>ay (ig A l t a b)) a b):=by
       simp_all
      rw[eU (by grind),bM,qf o,qf u];refine bz (ce _ _ (V _ (b7 o)) (V _ (b7 u))) ?_;dsimp only;have fs:(k6 d (λa b=>ay (ig A l t a b)) a b).length=d.length:=Qw aa;rw[gj av,bM,eU aa,bM,gj av,gj (bS (aa:b<(k6 d (λa b=>ay (ig A l t a b)) a b).length))];refine bu.2 ?_;have d2:ay (A d[a] d[b])=ay (ig A l t (d.getD a 0) d[b]):=(by simp_all [cb,ig]);dsimp only;rw[d2,Qx (h:=λa b=>ay (ig A l t a b)) u,ak3 _ _ aa,d1,Nat.sub_self];rfl
     rw[a1 (aI p)];refine bu.2 ?_;rw[acD (h:=λa b=>ay (ig A l t a b)) u (by simp_all [az,ig])]
    rintro _ rfl;dsimp only;rw[a1 (aI (aa:¬(d.length:Z)<(d.length:Z)))];grind [bu]
   rintro _ rfl;refine bu.2 ?_;have:k6 d (λa b=>ay (ig A l t a b)) a d.length=d.map λb=>ay (ig A l t d[a] b):=(by simp_all [mK,oJ,hP,k6]);rw[this,hx,ba o,ji];rfl
  rintro _ rfl;dsimp only;rw[U,a1 (aI (aa:¬(d.length:Z)<(d.length:Z))),cA];exact bu.2 bn
 rintro _ rfl;dsimp only;have c1:∀e,((eA l e t).foldl (λm e=>m.plus (L e)) (jS A l L t)).rows=d:=λe=>(by simp_all [AO,eA,jS]);have d0:∀e a b,cM (((eA l e t).foldl (λm e=>m.plus (L e)) (jS A l L t)).s a b):=λe=>E1 L _ _ λa b=>by
  show cM (if _ then _ else _);split
  ·grind
  exact EW
 refine bD (P:=λk=>k=(([],((0:Z),([],()))),fP (hR A l L t),())) ?_ (by grind [bu]);refine bL t (λe k=>k=((e:Z),([],((0:Z),([],()))),(a5 d,(q,(fM d (λa b=>ay (((eA l e t).foldl (λm e=>m.plus (L e)) (jS A l L t)).s a b)),()))),())) rfl ?_ ?_
 rotate_left
 ·rintro _ rfl;dsimp only;rw[a1 (aI (aa:¬(t:Z)<(t:Z)))];refine bu.2 ?_;unfold fP;rw[E.1,E.2,c2];rfl
 rintro e _ B rfl;dsimp only;rw[aY (aL (aa:(e:Z)<(t:Z))),bi aa];obtain⟨j,d4,rfl⟩:=N e aa;refine bD (P:=λk=>k=(([],((0:Z),([],()))),(a5 d,(q,(fM d (λa b=>ay (((eA l (e+1) t).foldl (λm e=>m.plus (L e)) (jS A l L t)).s a b)),()))),())) ?_ (by grind [bu]);refine bz d4 ?_;dsimp only;rw[fO,yV];by_cases p:gg l e=(t:Z)
 rotate_left
 ·rw[az p,aY (by grind)];grind [bu]
 rw[au p,a1 (by grind)];refine bz (O e B) ?_;rw[List.foldl_append,aku,List.foldl_nil];have K:∀a∈(L e).rows,a∈d:=λa o=>(by have:=z.child A J I ap (Ap.2 ⟨B,p⟩) o;grind);have d3:=d0 e;have gc:=c1 e;generalize(eA l e t).foldl (λm e=>m.plus (L e)) (jS A l L t)=m at*;have F:=z.w e B;generalize L e=j at*;have ge:j.rows.length<=100:=(by have:=F.nd.length_le_of_subset (l₂:=d) K;omega);have H:al (fP j).1=(j.rows.length:Z):=(by rw[bf];exact b4 _ (fH _));refine bD (P:=λk=>k=(([],((0:Z),([],()))),(a5 d,(q,(fM d (λa b=>ay ((m.plus j).s a b)),()))),())) ?_ (by grind [bu]);have cs:(λa b=>ay ((m.plus j).s a b))=λa b=>if a∈j.rows/\b∈j.rows then ay (cK (m.s a b) (j.s a b)) else ay (m.s a b):=by funext a b;show ay (if _ then _ else _)=_;grind
 rw[cs,<-Hc (l:=j.rows) (f:=λa b=>ay (cK (m.s a b) (j.s a b))) (g:=λa b=>ay (m.s a b))];generalize cv:(λa b=>ay (cK (m.s a b) (j.s a b)))=C;generalize dl:(λa b=>ay (m.s a b))=D;refine bL j.rows.length (λa k=>k=((a:Z),([],((0:Z),([],()))),(a5 d,(q,(fM d (gM j.rows C D a 0),()))),fP j,())) ?_ ?_ ?_
 ·rw[Hg];rfl
 rotate_left
 ·rintro _ rfl;dsimp only;rw[H,a1 (aI (aa:¬(j.rows.length:Z)<(j.rows.length:Z)))];grind [bu]
 rintro a _ o rfl;dsimp only;rw[H,aY (aL (aa:(a:Z)<(j.rows.length:Z))),bi aa];refine bD (P:=λk=>k=(([],((0:Z),([],()))),(a5 d,(q,(fM d (gM j.rows C D a j.rows.length),()))),fP j,())) ?_ (by grind [bu,Hf]);refine bL j.rows.length (λb k=>k=((b:Z),([],((0:Z),([],()))),(a5 d,(q,(fM d (gM j.rows C D a b),()))),fP j,())) rfl ?_ ?_
 rotate_left
 ·rintro _ rfl;dsimp only;rw[H,a1 (aI (aa:¬(j.rows.length:Z)<(j.rows.length:Z)))];grind [bu]
 rintro b _ u rfl;dsimp only;rw[H,aY (aL (aa:(b:Z)<(j.rows.length:Z))),bi aa];have a0:=b7 o;have a3:=b7 u;obtain⟨d6,d7,d8,_⟩:=AN (l:=d) aa j.rows[a];obtain⟨d5,rfl,Q⟩:=d8 (K _ a0);obtain⟨d6,ek,el,_⟩:=AN (l:=d) aa j.rows[b];obtain⟨k,rfl,R⟩:=el (K _ a3);have f8:=(aiV.1 Q).1;have f9:=(aiV.1 R).1;obtain⟨d9,em,go,dd⟩:=Fw (gM j.rows C D a b) Q R;have bx:=Kc ad (gM j.rows C D a b) Q R (C j.rows[a] j.rows[b]) em;rw[<-Hd o u] at bx;rw[He F.nd o u] at dd;have f4:(fM d (gM j.rows C D a b)).length=d.length:=Kb _ _;have an:=eU (n:=(fM d (gM j.rows C D a b)).length) (i:=d5) aa;have f1:=eU (n:=d9.length) (i:=k) aa;obtain⟨gl,gf,gi⟩:=xg (x:=j) (bS o) (bS u);have fn:=AX (d3 j.rows[a] j.rows[b]) (F.okd _ a0 _ a3);subst cv dl;refine bz (mY o) (bz d7 (bz (mY u) (bz ek (bz an (bz an ?_)))));simp_all [bu,gj,bz,bM]
end
end
theorem IF {c:Type} {p:c->bA} {d:c}:∀{e:bm c},d∈e.takeWhile p->p d=bp
 |[],a=>by cases a
 |b::e,a=>by
  rw[List.takeWhile_cons] at a;split at a
  ·rcases fR.1 a with rfl|a
   ·omega
   exact IF a
  grind
def nF (a:X->X) (c:X) (d:aie):aie:=d.takeWhile (λb=>br (a b<a c))++c::d.dropWhile (λb=>br (a b<a c))
def mD (a:X->X) (b:aie):aie:=b.foldl (λd c=>nF a c d) []
abbrev m5:=aie×(X->Z)
def a8.c0 (a:a8):bm m5:=a.l.map λb=>(a.rows,b)
def j6 (b:m5->aif) (a:bm m5):aif:=(bI (a.length+1)).map λc=>(((a.take c).flatMap b).length:Z)
def gy (a:X->X) (b:m5):aif:=(mD a b.1).map λc=>(a c:Z)
def iw (b:X->X) (a:m5):aif:=(mD b a.1).map a.2
def ri (c:aif) (a:bm a8) (del:Z):eH:=
 ((
  a.flatMap a8.cF).map (λb=>c.getD b 0),(a.map (λe=>(e.cF.length:Z)),(a.flatMap (·.d),
  (j6 (gy λb=>(a.flatMap a8.cF).idxOf b) (a.flatMap a8.c0),((a.flatMap a8.c0).flatMap (gy λb=>(a.flatMap a8.cF).idxOf b),((a.flatMap a8.c0).flatMap (iw λb=>(a.flatMap a8.cF).idxOf b),(del,())))))))
theorem LI (b:m5->aif) (a:bm m5) (c:m5):j6 b (a++[c])=j6 b a++[(((a++[c]).flatMap b).length:Z)]:=by
 unfold j6;rw[jN,px,i7,ji];congr 1
 ·grind [aiy]
 grind
theorem Wl (a:X->X) (c:X) (b:aie):(nF a c b).length=b.length+1:=by unfold nF;have e:=b4 aiq (Bx (p:=λd=>br (a d<a c)) (l:=b));grind
def Q0 (c:X->X):∀(b a:aie),(b.foldl (λa p=>nF c p a) a).length=a.length+b.length
 |[],a=>rfl
 |p::b,a=>by rw[aku,Q0 c b,Wl,i5];omega
theorem rL (b:X->X) (a:aie):(mD b a).length=a.length:=by unfold mD;rw[Q0,oH,nh]
theorem adl (b:X->X) (c:a<e.length):mD b (e.take (a+1))=nF b e[a] (mD b (e.take a)):=by grind [cr,bS,mD]
theorem DX (b:m5->bm j) {cs:bm m5} (c:∀a∈cs,(b a).length<=100):(cs.flatMap b).length<=100*cs.length:=by
 induction cs with
 |nil=>grind
 |cons a cs d=>
  grind
theorem abw (a:X->X) (c:aie) (b:X) (O:c.length<=1000) (d:eH) (f:aA) (g:eH) (k:aA):(loop (σ:=qP) (ρ:=qP) (λ(h,r,n,m,j,s,_)=>
 bB (α:=(eH×aA×eH×aA×aA×bt)⊕(qP⊕qP)) (
  bif br (h<al j)==bp then rd j h λI=>
  bif br (I<(a b:Z)) then
 Y (.inl (r,n,m,j,s,())) else
 Y (.inr (.inr (h,r,n,m,j,s,()))) else Y (.inr (.inr (h,r,n,m,j,s,())))) λq=>match q with
 |.inl (G,u,t,E,H,_)=>(
 Y (.inl (aP h,G,u,t,E,H,())))
 |.inr F=>Y F) (0,d,f,g,c.map (λb=>(a b:Z)),k,()))=Y (((c.takeWhile λd=>br (a d<a b)).length:Z),d,f,g,c.map (λb=>(a b:Z)),k,()):=by
 refine bQ.1 ?_;generalize A:c.takeWhile (λd=>br (a d<a b))=e;have M:e.length<=c.length:=(by grind [List.takeWhile_sublist]);have D:=Bx (p:=λd=>br (a d<a b)) (l:=c);rw[A] at D;have o:(c.map (λb=>(a b:Z))).length=c.length:=e9 _;refine bL e.length (λi q=>q=((i:Z),d,f,g,c.map (λb=>(a b:Z)),k,())) rfl ?_ ?_
 ·rintro i _ N rfl;dsimp only;have B:i<c.length:=aa;have x:a (c[i]'B)<a b:=by
   have z:e[i]∈c.takeWhile (λd=>br (a d<a b)):=(by grind);have L:=IF z;grind
  refine bz (y:=.inl (d,f,g,c.map (λb=>(a b:Z)),k,())) ?_ ?_
  ·rw[bf,o,aY (by grind)];simp_all [eU,aD,gj,jh,ba,aY,aL,rd]
  grind [bu,bi]
 rintro _ rfl;dsimp only;refine bz (y:=.inr (.inr ((e.length:Z),d,f,g,c.map (λb=>(a b:Z)),k,()))) ?_ (bu.2 bn);rw[bf,o];by_cases w:e.length<c.length
 ·rw[aY (by grind)];unfold rd;rw[o,eU w,aD,gj (v:=(a c[e.length]:Z)) (by grind),aD,a1 (aI ?_)];intro K;have C:c.dropWhile (λd=>br (a d<a b))≠[]:=λJ=>by
   grind
  have x:=List.head_dropWhile_not (λd=>br (a d<a b)) C;grind
 grind
theorem Nt (a:X->X) (c:X) (b:aie) (e:X->j):((([]:bm j)++(((b.map e).take (b.takeWhile λd=>br (a d<a c)).length).drop 0))++[e c])++(((b.map e).take (b.map e).length).drop (b.takeWhile λd=>br (a d<a c)).length)=(nF a c b).map e:=by have f:=Bx (p:=λd=>br (a d<a c)) (l:=b);rw[hP,lP,ir,<-amd,<-List.map_drop];grind [List.take_left,List.drop_left,aiQ,decide,nF]
end Go.jg
end
