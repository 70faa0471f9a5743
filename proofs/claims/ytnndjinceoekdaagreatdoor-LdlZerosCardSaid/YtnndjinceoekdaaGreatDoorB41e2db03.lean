/-
  Parts of the proof: Pm4, Pm5, Pm6, Pm7, Pm8, Pm9, Pm10, Pm11, Pm12, Pl13, Th2, Pl16, Pl18, Th3, Pl20, Pl21, Pl22, Pl23, Pl24, Pl25, Pl26, Pl27, Pl29, Pl30, Pl32, Pl36, Pl40, Pl41, Pl42, Pl43, Pm13, Pl46, Pl48, Pl50, Pl51, Pl54, Pm14, Pm15, Pm16, Pm17, Pm18, Pm22, Pm24, Pm25, Pm26, Pm27, Pm29, Pm30, Pm51, Pm52, Pm55, Pm56, Pm57, Pm70, Pm71, Pm72, Pm73, Pm74, Pm75, Pm76, Pm77, Pm78, Pm79, Pm80, Pm81, Th5, Th6, Pm82, Pm83, Pm90, Pm38, Pm41, Pm42, Pm91, Pm84, Pm85, Pm86, Pm87, Pm88, Pm92, Pm93, Pm94: the framework (Fw), pure forms (Dn), plain laws (Pl, Th), calls of functions (Ok).
-/
import Derived.KernelRfl
import Derived.Test.YtnndjinceoekdaaGreatDoorBbe43b457

set_option linter.all false
set_option maxHeartbeats 1000000
open _root_ renaming Nat->X,Int->Z,Bool->bA,Unit->bt,rfl->bn,decide_eq_true->ah3,decide_eq_false->aiy,List->bm,beq_self_eq_true->aix,cond_true->bG,if_pos->ca,decide_eq_true_eq->aip,congrArg->b3,cond_false->bP,False->b6,decide_true->aiu,decide_eq_decide->cx,if_true->cf,forall_const->ak0,implies_true->al0,not_true_eq_false->ajK,not_not_intro->ah2,Option->bv,Decidable->aiE,if_neg->ck,and_true->b9
open Option renaming some->Y,none->bo,bind_some->bN,map_some->ajI,bind->bB
open Go.jf.ae renaming eq_iff->bQ,aM->bE,steps->bO,bs->bz,ite->ah9,af->bu,e6->bX,mono->cy,fb->bZ,loop->aik
open Bool renaming false->bq,true->bp
open Nat renaming lt_or_ge->cl,zero_le->alX,le_refl->cj,le_trans->cz,mul_add_div->am6,div_eq_of_lt->alU,mul_le_mul->akW,lt_irrefl->ajY,not_lt_zero->akZ,ble->b2,ble_eq_true_of_le->am9,one_mul->ak2,add_comm->ajQ,le_mul_of_pos_left->anb,mul_mod_left->anc,le_div_iff_mul_le->alL,mod_lt->aju,shiftRight_eq_div_pow->alA,or_mod_two_pow->ane,and_mod_two_pow->al2,and_zero->anf,shiftLeft_eq->akG,lt_of_le_of_lt->ang,and_le_right->anh,or_lt_two_pow->alJ,beq->bH,and_two_pow_sub_one_eq_mod->alK,add_assoc->ajv
open Int renaming eq_ofNat_of_zero_le->cB,toNat_natCast->aiA,toNat->aiv,mul_ediv_cancel->alS,mul_ne_zero->al1,mul_zero->aj3,natAbs_natCast->akS,mul_comm->ai1
open List renaming length_append->aiz,append_assoc->aiB,pairwise_append->am5,pairwise_iff_getElem->ah1,getElem_mem->b7,take_add_one->ct,getElem?_eq_getElem->bS,map_append->akT,take_of_length_le->ch,length_filter_le->air,filter_eq_nil_iff->akU,mem_take_iff_getElem->ajJ,length_take->aib,take_sublist->akV,filter_eq_self->ajq,range->bI,getD->aiJ,replicate->bJ,map_const'->alY,map_congr_left->aii,getElem?_eq_none->ajE,mem_cons_self->alZ,pairwise_cons->ajR,length_map->cm,filter_nil->akX,getElem_set->am8,mem_singleton->ah4,take_length->cA,length_set->aj5,range_succ->ais,getElem_inj->ajl,length_range->ai2,mem_iff_getElem->aiS,mem_of_find?_eq_some->alx,take_append_drop->ajw,decidableBAll->ani,mem_of_getElem?->aig,drop_eq_nil_of_le->alR,getElem?_eq_some_iff->aiF,map_nil->ajb,filter->aj0,flatMap_def->anj,range'->ah6,Nodup->akc,range_eq_range'->al4,mem_append_right->akB,getElem?_inj->aku,map_take->al5,set_append_right->akO,length_singleton->akd,length_range'->al6,range'_concat->ak3,foldl_cons->ake,length->aia
open List.Pairwise renaming nil->akr,sublist->am7
open Go.IntKind renaming u64->bC,i64->bK
open Decidable renaming decide->br
open List.Sublist renaming filter->anD,append->anE,refl->anF
open Go.jf.jS renaming symm->akY
open Option.some renaming injEq->ajd,inj->aiL
open Go.jf renaming wrap64->cr
open List.Perm renaming refl->akb,append_left->akD
open Go.Lib renaming compact->aiQ,keeps->ak1
open List.Nodup renaming sublist->ana
open BitVec renaming toNat_and->al3,ofInt->cg
noncomputable section
namespace Go.jf
variable{a b f q:X}{c j O:Z}{d h i w:ahZ}{e n:ahY}{k:Type}{l:ew}{r:X->X->bA}{u:X->Prop}{v:eu}{x:ahV}{y:ahZ×bA×bt}{N:ahT}
theorem acf (h:∀l∈d,eK l) (n:d.length<=1000000):Df (d,())=Y (open Classical in decide (nU d),()):=by
 classical
 unfold Df;refine bQ.1 ?_;dsimp only;refine bE (P:=λi=>match i with|.inl _=>nU d|.inr j=>j=(bq,())/\¬nU d) ?_ ?_
 ·refine bO d.length (λa k=>k=((a:Z),())/\∀b,b<a->bd (d.getD b 0)≠2047) ⟨bn,λb m=>by omega⟩ ?_ ?_
  ·rintro a _ f ⟨rfl,e⟩;dsimp only;rw[aY (aK (show(a:Z)<al d by grind))];refine bz (ho f) (bz (AR (KU.getD h a)) ?_);dsimp only;rw[Bool.not_not,cQ];refine ah9 (λc=>?_) λc=>?_
   ·exact bu.2 ⟨bn,λg=>g a f c⟩
   grind [bu,bk,cl]
  rintro _ ⟨rfl,e⟩;dsimp only;rw[a1 (aI (show¬((d.length:Z)<al d) by grind))];exact bu.2 e
 grind [ah3,bu,aiy]
theorem abP (bl:b<=200) (an:a<=200) (ap:h.length<=10000) (bx:d.length<=1000000) (R:w.length<=1000000) (S:∀ad∈w,eK ad):q2 (((b:Z),(a:Z),d,h,w,()),())=Y (gE b a d h w,()):=by
 classical
 unfold q2;refine bQ.1 ?_;dsimp only;have Q:aP (a:Z)=((a+1:X):Z):=bk aa;have am:∀(k:¬gz b a d h w),((1:Z),())=(gE b a d h w,()):=λk=>(by unfold gE;grind);refine bz (y:=.inl ()) ?_ ?_
 ·grind
 dsimp only;refine bE (P:=λj=>match j with
  |.inl _=>d.length=a+1/\d.getD 0 0=0/\d.getD a 0=(h.length:Z)/\w.length=h.length
  |.inr l=>l=((1:Z),())/\¬gz b a d h w) ?_ ?_
 ·rw[Q,fX,fX];by_cases B:w.length=h.length
  ·rw[aK (show al w=al h by grind)];by_cases A:d.length=a+1
   ·rw[aK (show al d=((a+1:X):Z) by grind)];refine bz (y:=d.getD 0 0) (ho (i:=0) aa) ?_;rw[fX];by_cases p:d.getD 0 0=0
    ·rw[aK p];refine bz (y:=d.getD a 0) (ho aa) ?_;rw[fX];by_cases t:d.getD a 0=(h.length:Z)
     ·grind [bu,aK]
     rw[aI (show¬d.getD a 0=al h from t)];exact bu.2 ⟨bn,λk=>t k.last⟩
    rw[aI p];exact bu.2 ⟨bn,λk=>p k.first⟩
   rw[aI (show¬al d=((a+1:X):Z) by grind)];exact bu.2 ⟨bn,λk=>A k.len⟩
  rw[aI (show¬al w=al h by grind)];exact bu.2 ⟨bn,λk=>B k.val⟩
 rintro(j|j) q
 rotate_left
 ·grind [bu]
 obtain⟨A,p,t,B⟩:d.length=a+1/\d.getD 0 0=0/\d.getD a 0=(h.length:Z)/\w.length=h.length:=q;dsimp only;refine bE (P:=λj=>match j with
  |.inl _=>(∀c,c<a->d.getD c 0<=d.getD (c+1) 0)
  |.inr l=>l=((1:Z),())/\¬gz b a d h w) ?_ ?_
 ·refine bO a (λo s=>s=((o:Z),())/\∀c,c<o->d.getD c 0<=d.getD (c+1) 0) ⟨bn,λc z=>by omega⟩ ?_ ?_
  ·rintro c _ z ⟨rfl,x⟩;dsimp only;rw[aY (aK (aa:(c:Z)<(a:Z))),bk aa];refine bz (ho aa) (bz (ho aa) ?_);rw[cQ];refine ah9 (λv=>?_) λv=>?_
   ·exact bu.2 ⟨bn,λk=>by have:=k.mono c z;omega⟩
   grind [bu,cl]
  rintro _ ⟨rfl,x⟩;simp_all [bu,a1,aI]
 rintro(j|j) q
 rotate_left
 ·grind [bu]
 have M:∀c,c<a->d.getD c 0<=d.getD (c+1) 0:=q;have J:∀c,c<=a->0<=d.getD c 0:=λc=>by
  induction c with
  |zero=>omega
  |succ c K=>grind
 have q:∀u c,c+u=a->d.getD c 0<=(h.length:Z):=λu=>by
  induction u with
  |zero=>grind
  |succ u K=>grind
 dsimp only;refine bE (P:=λj=>match j with
  |.inl _=>(∀c,c<a->km (b:Z) d h c)
  |.inr l=>l=((1:Z),())/\¬(∀c,c<a->km (b:Z) d h c)) ?_ ?_
 ·refine bO a (λo s=>s=((o:Z),())/\∀c,c<o->km (b:Z) d h c) ⟨bn,λc z=>by omega⟩ ?_ ?_
  ·rintro c _ z ⟨rfl,x⟩;dsimp only;rw[aY (aK (aa:(c:Z)<(a:Z))),bk aa];obtain⟨e,a3⟩:=cB (J c aa);obtain⟨n,O⟩:=cB (J (c+1) aa);have av:n<=h.length:=(by have:=q (a-(c+1)) (c+1) aa;omega);have a0:e<=n:=(by grind);have G:ao d (c:Z)=Y (e:Z):=(by grind [ho]);have H:ao d ((c+1:X):Z)=Y (n:Z):=(by rw[ho aa,O]);refine bz G ?_;refine bE (P:=λj=>match j with
    |.inl _=>km (b:Z) d h c
    |.inr l=>l=.inr (.inr ((1:Z),()))/\¬km (b:Z) d h c) ?_ ?_
   ·refine bO (n-e) (λf s=>s=(((e+f:X):Z),())/\∀g:X,e<=g->g<e+f->(if(g:Z)=d.getD c 0 then-1 else h.getD (g-1) 0)<h.getD g 0/\h.getD g 0<(b:Z)) ⟨bn,λg x m=>by omega⟩ ?_ ?_
    ·rintro f _ ce ⟨rfl,m⟩;dsimp only;refine bz H ?_;rw[aY (aK (aa:((e+f:X):Z)<(n:Z)))];have C:ao h ((e+f:X):Z)=Y (h.getD (e+f) 0):=ho aa;have a4:f≠0->0<=h.getD (e+f-1) 0:=λV=>by
      have U:∀g:X,e<=g->g<e+f->0<=h.getD g 0:=by
       intro g
       induction g with
       |zero=>
        grind
       |succ g K=>
        intro D E;have I:=(m (g+1) D E).1;by_cases v:((g+1:X):Z)=d.getD c 0
        ·omega
        grind
      exact U _ aa aa
     refine bE (P:=λj=>match j with
      |.inl _=>((if((e+f:X):Z)=d.getD c 0 then-1 else h.getD (e+f-1) 0)<h.getD (e+f) 0/\h.getD (e+f) 0<(b:Z))
      |.inr l=>l=.inr (.inr (.inr (.inr ((1:Z),()))))/\¬((if((e+f:X):Z)=d.getD c 0 then-1 else h.getD (e+f-1) 0)<h.getD (e+f) 0/\h.getD (e+f) 0<(b:Z))) ?_ ?_
     ·refine bz C ?_;by_cases F:h.getD (e+f) 0<0
      ·rw[aK F];refine bu.2 ⟨bn,λk=>?_⟩;omega
      rw[aI F];refine bz C ?_;by_cases L:h.getD (e+f) 0>=(b:Z)
      ·grind [bu,aK]
      rw[aI L];refine bz G ?_;by_cases V:f=0
      ·rw[aI (aa:¬((e+f:X):Z)>(e:Z))];refine bu.2 ⟨?_,aa⟩;omega
      rw[aK (aa:((e+f:X):Z)>(e:Z))];have aq:ay (((e+f:X):Z)-1)=((e+f-1:X):Z):=(by rw[cL aa aa];omega);refine bz C (bz (y:=h.getD (e+f-1) 0) (by rw[aq];exact ho aa) ?_);rw[cQ];refine ah9 (λv=>?_) λv=>?_
      ·refine bu.2 ⟨bn,λk=>?_⟩;omega
      refine bu.2 ⟨?_,aa⟩;omega
     rintro(j|j) r
     ·refine bu.2 ⟨by rw[bk aa];rfl,?_⟩;intro g D E;rcases cO g (e+f) with T|T
      ·grind
      obtain rfl:g=e+f:=aa;omega
     obtain⟨rfl,I⟩:=r;exact bu.2 ⟨bn,λk=>I (k (e+f) aa aa)⟩
    rintro _ ⟨rfl,m⟩;dsimp only;refine bz H ?_;rw[a1 (aI (aa:¬(((e+(n-e):X):Z)<(n:Z))))];refine bu.2 ?_;intro g D E;simp_all
   grind [bu,cl]
  rintro _ ⟨rfl,x⟩;simp_all [bu,a1,aI]
 rintro(j|j) r
 ·have r:(∀c,c<a->km (b:Z) d h c):=r;have N:gz b a d h w:=gz.iff.2 ⟨A,p,M,t,B,r⟩;refine bz (acf S R) ?_;unfold gE;rw[au N];by_cases m:nU w
  ·rw[ah3 m,au m];grind [bu]
  rw[aiy m,ax m];grind [bu]
 grind [bu,gz.iff]
abbrev cW:=Z×Z×Z×bt
variable{s:bm cW}{t:cW}
def iP (b d:ahZ) (c:Z) (a:X):X->bm cW
 |0=>[]
 |n+1=>iP b d c a n++[(b.getD (a+n) 0,c,d.getD (a+n) 0,())]
def c6 (a b c:ahZ):X->bm cW
 |0=>[]
 |j+1=>c6 a b c j++iP b c (j:Z) (a.getD j 0).toNat ((a.getD (j+1) 0).toNat-(a.getD j 0).toNat)
theorem Mt (c f:ahZ) (d:Z) (e a:X):(iP c f d e a).length=a:=by
 induction a with
 |zero=>rfl
 |succ a b=>simp[iP,b]
def gz.pos (e:gz b a d h i):∀c,c<=a->0<=d.getD c 0:=λc=>by
 have:=e.first
 induction c with
 |zero=>omega
 |succ c f=>intro g;have:=f aa;have:=e.mono c aa;omega
theorem gz.p5 (f:gz b a h d i):∀c,c<=a->h.getD c 0<=(d.length:Z):=by
 have k:∀e c,c+e=a->h.getD c 0<=(d.length:Z):=λe=>by
  have:=f.last
  induction e with
  |zero=>grind
  |succ e j=>intro c g;have:=j (c+1) aa;have:=f.mono c aa;omega
 exactλc g=>k (a-c) c aa
theorem zM (e:gz b a d h i):∀c,c<=a->(c6 d h i c).length=(d.getD c 0).toNat:=λc=>by
 induction c with
 |zero=>intro _;have:=e.first;show 0=(d.getD 0 0).toNat;omega
 |succ c f=>
  intro k;have g:=f aa;have j:=e.mono c aa;grind [aiz,Mt,c6]
theorem Hp (e:gz b a i d h) (p:a<=200) (r:d.length<=10000):wQ (((b:Z),(a:Z),i,d,h,()),())=Y (c6 i d h a,()):=by
 unfold wQ;refine bQ.1 ?_;dsimp only;refine bE (P:=λk=>k=(c6 i d h a,())) ?_ (by grind [bu]);refine bO a (λc l=>l=((c:Z),c6 i d h c,())) rfl ?_ ?_
 ·rintro c _ n rfl;have s:=e.len;obtain⟨g,o⟩:=cB (e.pos c aa);obtain⟨f,m⟩:=cB (e.pos (c+1) aa);have t:f<=d.length:=(by have:=e.p5 (c+1) aa;omega);have u:g<=f:=(by have:=e.mono c n;omega);have q:=zM e c aa;have w:=e.val;dsimp only;rw[aY (aK (aa:(c:Z)<(a:Z))),bk aa];refine bz (y:=(g:Z)) (by rw[ho aa,o]) ?_;refine bE (P:=λk=>k=(c6 i d h (c+1),())) ?_ (by grind [bu]);refine bO (f-g) (λj l=>l=(((g+j:X):Z),c6 i d h c++iP d h (c:Z) g j,())) (by simp[iP]) ?_ ?_
  ·rintro j _ v rfl;dsimp only;refine bz (y:=(f:Z)) (by rw[ho aa,m]) ?_;rw[aY (aK (aa:((g+j:X):Z)<(f:Z)))];refine bz (ho aa) (bz (ho aa) ?_);rw[da (by grind [Mt])];refine bu.2 ?_;rw[bk aa,aiB];rfl
  rintro _ rfl;dsimp only;refine bz (y:=(f:Z)) (by rw[ho aa,m]) ?_;simp_all [bu,a1,aI,c6,iP]
 rintro _ rfl;dsimp only;rw[a1 (aI (aa:¬((a:Z)<(a:Z))))];grind [bu]
structure ji (rows c3:X) (st mV qn:ahZ):Prop where
 hr:rows<=200
 hc:c3<=200
 hi:mV.length<=10000
 hs:st.length<=1000000
 hv:qn.length<=1000000
 hw:∀v∈qn,eK v
def ji.check (c:ji b a h d i):ss (((b:Z),(a:Z),h,d,i,()),())=Y (gE b a h d i,()):=W1 c.hr c.hc c.hi c.hs c.hv c.hw
def ji.xR (c:ji b a h d i):q2 (((b:Z),(a:Z),h,d,i,()),())=Y (gE b a h d i,()):=abP c.hr c.hc c.hi c.hs c.hv c.hw
theorem jG:gE b a i h d=0↔gz b a i h d/\nU d:=by unfold gE;grind
def RI (c:ji b a h d i) (e:gE b a h d i=0):Cz (((b:Z),(a:Z),h,d,i,()),())=Y (c6 h d i a,()):=by unfold Cz;refine ai c.check ?_;dsimp only;rw[e,fX,aK bn];exact ai (Hp (jG.1 e).1 c.hc c.hi) rfl
theorem PQ (c:ji b a h d i) (g:gE b a h d i=0):zv (((b:Z),(a:Z),h,d,i,()),())=Y (c6 h d i a,()):=by have e:=(jG.1 g).1;have f:=Hp e c.hc c.hi;unfold wQ at f;unfold zv;refine ai c.xR ?_;grind
def hh (a b:cW):Prop:=a.2.1<b.2.1\/(a.2.1=b.2.1/\a.1<b.1)
def va:t∈iP d h c b a↔∃e,e<a/\t=(d.getD (b+e) 0,c,h.getD (b+e) 0,()):=by
 induction a with
 |zero=>simp[iP]
 |succ a k=>
  simp only[iP,hX,k,gd];constructor
  ·rintro(⟨e,j,f⟩|i)
   ·exact⟨e,aa,f⟩
   exact⟨a,aa,i⟩
  rintro⟨e,j,f⟩;rcases cO e a with g|g
  ·exact .inl ⟨e,g,f⟩
  obtain rfl:e=a:=aa;exact .inr f
def Un (g:∀f e,f<e->e<a->d.getD (b+f) 0<d.getD (b+e) 0):(iP d h c b a).Pairwise hh:=by
 induction a with
 |zero=>exact akr
 |succ a m=>
  refine am5.2 ⟨m λf e i p=>g f e i aa,List.pairwise_singleton _ _,?_⟩;intro n j o k;obtain⟨e,l,rfl⟩:=va.1 j;rw[gd.1 k];exact .inr ⟨bn,g e a l aa⟩
def Af:t∈c6 d h i a↔∃b,b<a/\t∈iP h i (b:Z) (d.getD b 0).toNat ((d.getD (b+1) 0).toNat-(d.getD b 0).toNat):=by
 induction a with
 |zero=>simp[c6]
 |succ a j=>
  simp only[c6,hX,j];constructor
  ·rintro(⟨b,g,c⟩|f)
   ·exact⟨b,aa,c⟩
   exact⟨a,aa,f⟩
  rintro⟨b,g,c⟩;rcases cO b a with e|e
  ·exact .inl ⟨b,e,c⟩
  obtain rfl:b=a:=aa;exact .inr c
def q9 (k:gz b a d h i):∀c,c<=a->(c6 d h i c).Pairwise hh:=by
 intro c
 induction c with
 |zero=>intro _;exact akr
 |succ c q=>
  intro p;have C:=k.pos c aa;have D:=k.pos (c+1) p;refine am5.2 ⟨q aa,Un ?_,?_⟩
  ·intro f g v w;have s:∀e,f+e<(d.getD (c+1) 0).toNat-(d.getD c 0).toNat->0<e->h.getD ((d.getD c 0).toNat+f) 0<h.getD ((d.getD c 0).toNat+(f+e)) 0:=by
    intro e
    induction e with
    |zero=>intro _ y;omega
    |succ e r=>
     intro x _;have m:=k.asc c ((d.getD c 0).toNat+(f+(e+1))) aa aa aa;rw[(aa:(d.getD c 0).toNat+(f+(e+1))-1=(d.getD c 0).toNat+(f+e))] at m;rcases n0 e with j|j
     ·subst j;exact m
     have:=r aa j;omega
   have:=s (g-f) aa aa;rwa[(aa:f+(g-f)=g)] at this
  intro t l u o;obtain⟨n,z,l⟩:=Af.1 l;obtain⟨g,A,rfl⟩:=va.1 l;obtain⟨E,B,rfl⟩:=va.1 o;exact .inl (by show(n:Z)<(c:Z);omega)
def aaM (a b:Z):BQ ([a,b],())=Y (if a≠0 then a else b,()):=by
 unfold BQ;refine bQ.1 ?_;dsimp only;refine bE (P:=λf=>match f with|.inl _=>a=0/\b=0|.inr k=>k=(if a≠0 then a else b,())) ?_ ?_
 ·refine bO 2 (λd l=>l=((d:Z),())/\(1<=d->a=0)/\(2<=d->b=0)) ⟨bn,λh=>by omega,λh=>by omega⟩ ?_ ?_
  ·rintro d _ m ⟨rfl,g,i⟩;rcases(aa:d=0\/d=1) with rfl|rfl
   ·show ae (bif a !=0 then _ else _) _;rw[fX];by_cases c:a=0
    ·rw[aK c];exact bu.2 ⟨bn,λ_=>c,λh=>by omega⟩
    rw[aI c];refine bu.2 ?_;rw[au c]
   show ae (bif b !=0 then _ else _) _;have j:=g ab;rw[fX];by_cases c:b=0
   ·rw[aK c];exact bu.2 ⟨bn,λ_=>j,λ_=>c⟩
   rw[aI c];refine bu.2 ?_;rw[ax (by simpa using j)]
  rintro _ ⟨rfl,g,i⟩;exact bu.2 ⟨g ab,i ab⟩
 rintro(f|f) e
 ·obtain⟨rfl,rfl⟩:a=0/\b=0:=e;exact bu.2 bn
 have e:f=_:=e;rw[e];exact bu.2 bn
def Mm {a:cW} (b:hh t a):wR (a,t,())=Y (1,()):=by
 unfold wR;refine ai (BN _ _) (ai (BN _ _) (ai (aaM _ _) ?_));dsimp only;congr 2;unfold fF;rcases b with b|⟨d,c⟩
 ·rw[ax (aa:¬a.2.1<t.2.1),au b];rfl
 rw[ax (aa:¬a.2.1<t.2.1),ax (aa:¬t.2.1<a.2.1),ax ac,ax (aa:¬a.1<t.1),au c]
def H0 (i:s.length<=1000) (e:s.Pairwise hh) {lo hi:X} (f:lo<=hi) (g:hi<=s.length):zi (s,(lo:Z),(hi:Z),(),())=Y (s,()):=by
 unfold zi;refine bQ.1 ?_;dsimp only;refine bE (P:=λc=>c=(s,())) ?_ (by rintro _ rfl;exact bu.2 bn);refine bO (hi-lo-1) (λa b=>b=(((lo+1+a:X):Z),s,())) (by rw[bk aa]) ?_ ?_
 ·rintro a _ h rfl;dsimp only;rw[aY (aK (aa:((lo+1+a:X):Z)<(hi:Z)))];refine bE (P:=λc=>c=(s,())) ?_ (by rintro _ rfl;refine bu.2 ?_;dsimp only;rw[bk aa];rfl);refine bO 0 (λ_ b=>b=(((lo+1+a:X):Z),s,())) rfl (λa b hi=>by omega) ?_;rintro _ rfl;dsimp only;refine bz (y:=.inr (.inr (s,()))) ?_ (bu.2 bn);rw[aK (aa:((lo+1+a:X):Z)>(lo:Z))];have aq:ay (((lo+1+a:X):Z)-1)=((lo+a:X):Z):=(by rw[cL aa aa];omega);rw[aix,bG,js aa,aq,js aa];have d:hh s[lo+a] s[lo+1+a]:=ah1.1 e _ _ aa aa aa;exact ai (Mm d) rfl
 rintro _ rfl;dsimp only;rw[a1 (aI (aa:¬((lo+1+(hi-lo-1):X):Z)<(hi:Z)))];exact bu.2 bn
def adw (u:s.length=21) (m:s.Pairwise hh):CS (s,0,20,21,(),())=Y (s,()):=by
 unfold CS;refine bQ.1 ?_;dsimp only;rw[a1 ab,aY ab];refine bE (P:=λh=>h=(20,s,())) ?_ ?_
 ·refine bO 4 (λd g=>g=((([0,11,16,19,20]:ahY).getD d 0:Z),20,s,())) rfl ?_ ?_
  ·rintro d _ v rfl;have f:∀c a:X,c<20->a<20->eJ bC (aL (ay ((c:Z)+20))) 1=Y (a:Z)->ay (a:Z)=(a:Z)->aP (a:Z)=((a+1:X):Z)->
    ae (
     bif br ((c:Z)<20) then(eJ bC (aL (ay ((c:Z)+20))) 1).bind λi=>
     rd s 20 λo=>rd s (ay i) λp=>(wR (o,p,())).bind λ(n,_)=>
      (bif !(br (n<0)) then Y (.inl (aP (ay i),20,s,())) else bo) else Y (.inr ((c:Z),s,())))
     (λe=>e=Sum.inl (((a+1:X):Z),(20:Z),s,())):=by
    intro c a q r j k l;rw[aY (aK aa),j,bN,k,show(20:Z)=((20:X):Z) from rfl,js aa,js aa];refine bz (Mm (ah1.1 m _ _ aa aa aa)) ?_;dsimp only;rw[aY ab,l];exact bu.2 bn
   rcases(by omega:d=0\/d=1\/d=2\/d=3) with rfl|rfl|rfl|rfl
   ·exact(f 0 10 ab ab ab ab ab).mono λe b=>by rw[b];rfl
   ·exact(f 11 15 ab ab ab ab ab).mono λe b=>by rw[b];rfl
   ·exact(f 16 18 ab ab ab ab ab).mono λe b=>by rw[b];rfl
   exact(f 19 19 ab ab ab ab ab).mono λe b=>by rw[b];rfl
  rintro _ rfl;exact bu.2 bn
 rintro _ rfl;dsimp only;refine bE (P:=λh=>h=(s,())) ?_ (by rintro _ rfl;exact bu.2 bn);refine bO 0 (λ_ g=>g=(20,s,())) rfl (λw g t=>by omega) ?_;rintro _ rfl;exact bu.2 bn
def ac3 (l:s.length<=21) (d:s.Pairwise hh):CD (s,())=Y (s,()):=by
 unfold CD;refine ai (y:=(s,())) ?_ ?_
 ·unfold GR;have f:((cD (([]:bm cW).length+s.length)).bind λ_=>Y (([]++s:bm cW),()))=Y (s,()):=by
   rw[da (by simp;omega)];rfl
  show rz s.length (Y ([],())) ((cD (([]:bm cW).length+s.length)).bind λ_=>Y (([]++s:bm cW),()))=_;unfold rz;rw[f];split
  ·rename_i h;obtain rfl:=qv h;rw[au bn]
  rfl
 refine ai (y:=(s,())) ?_ bn;unfold GY;refine ai (y:=(s,())) ?_ bn;unfold G0;refine bQ.1 ?_;dsimp only;by_cases j:s.length<20
 ·refine bE (P:=λb=>b=(0,s,())) ?_ ?_
  ·refine bO 0 (λ_ a=>a=(0,20,s,())) rfl (λg a e=>by omega) ?_;rintro _ rfl;dsimp only;rw[a1 (aI (show¬((20:Z)<=al s) by simp only[bh];omega))];exact bu.2 bn
  rintro _ rfl;refine bz (H0 (lo:=0) aa d (alX _) (cj _)) ?_;refine bE (P:=λb=>b=(s,())) ?_ (by rintro _ rfl;exact bu.2 bn);refine bO 0 (λ_ a=>a=(20,s,())) rfl (λg a e=>by omega) ?_;rintro _ rfl;dsimp only;rw[a1 (aI (show¬((20:Z)<al s) by simp only[bh];omega))];exact bu.2 bn
 refine bE (P:=λb=>b=(20,s,())) ?_ ?_
 ·refine bO 1 (λc a=>a=((20*(c:Z)),20+20*(c:Z),s,())) rfl ?_ ?_
  ·rintro c _ i rfl;obtain rfl:c=0:=aa;dsimp only;rw[aY (aK (show(20:Z)+20*((0:X):Z)<=al s by simp only[bh];omega))];refine bz (H0 (lo:=0) (hi:=20) aa d (alX _) aa) ?_;exact bu.2 bn
  rintro _ rfl;dsimp only;rw[a1 (aI (show¬((20:Z)+20*((1:X):Z)<=al s) by simp only[bh];omega))];exact bu.2 bn
 rintro _ rfl;refine bz (H0 (lo:=20) aa d aa (bc _)) ?_;refine bE (P:=λb=>b=(s,())) ?_ (by rintro _ rfl;exact bu.2 bn);by_cases k:s.length=20
 ·refine bO 0 (λ_ a=>a=(20,s,())) rfl (λg a e=>by omega) ?_;rintro _ rfl;dsimp only;rw[a1 (aI (show¬((20:Z)<al s) by simp only[bh];omega))];exact bu.2 bn
 refine bO 1 (λc a=>a=(20+20*(c:Z),s,())) rfl ?_ ?_
 ·rintro c _ i rfl;obtain rfl:c=0:=aa;dsimp only;rw[aY (aK (show(20:Z)+20*((0:X):Z)<al s by simp only[bh];omega))];refine bE (P:=λb=>b=(0,s,())) ?_ ?_
  ·refine bO 0 (λ_ a=>a=(0,40,s,())) rfl (λg a e=>by omega) ?_;rintro _ rfl;dsimp only;rw[a1 (aI (show¬((40:Z)<=al s) by simp only[bh];omega))];exact bu.2 bn
  rintro _ rfl;refine bz (y:=(s,())) ?_ (bu.2 bn);dsimp only;have f:al s=21:=(by rw[bh];omega);rw[f,aY (aK (ab:ay (0+(20+20*((0:X):Z)))<21))];exact ai (adw aa d) rfl
 rintro _ rfl;dsimp only;rw[a1 (aI (show¬((20:Z)+20*((1:X):Z)<al s) by simp only[bh];omega))];exact bu.2 bn
def jj (E:bm cW) (a:Z):X:=(E.filter λb=>br (b.2.1=a)).length
def g0 (E:bm cW) (a:Z):X:=(E.filter λb=>br (b.2.1<a)).length
def ru (d b:X) (E:bm cW):e0:=((d:Z),(b:Z),aB (b+1) (λc=>(g0 E (c:Z):Z)),E.map (λa=>a.1),E.map (λa=>a.2.2.1),())
theorem GB (E:bm cW) (a:Z):g0 E (a+1)=g0 E a+jj E a:=by
 unfold g0 jj
 induction E with
 |nil=>rfl
 |cons b E d=>
  simp only[nY];rcases Int.lt_trichotomy b.2.1 a with c|c|c
  ·rw[au (by simpa using(by omega:b.2.1<a+1)),au (by simpa using c),ax (by simpa using(by omega:¬b.2.1=a))];simp only[iZ];omega
  ·rw[au (by simpa using(by omega:b.2.1<a+1)),ax (by simpa using(by omega:¬b.2.1<a)),au (by simpa using c)];simp only[iZ];omega
  rw[ax (by simpa using(by omega:¬b.2.1<a+1)),ax (by simpa using(by omega:¬b.2.1<a)),ax (by simpa using(by omega:¬b.2.1=a))];omega
def ln (c b:X) (E:bm cW):Prop:=∀a∈E,0<=a.1/\a.1<(c:Z)/\0<=a.2.1/\a.2.1<(b:Z)
def LW (E:bm cW) (c:cW) (a:Z):jj (E++[c]) a=jj E a+if c.2.1=a then 1 else 0:=by
 unfold jj;rw[px,jQ];congr 1;by_cases b:c.2.1=a
 ·rw[au b,FR (by simpa using b)];rfl
 rw[ax b,FQ (by simpa using b)];rfl
def Tj {E:bm cW} (C:b<=200) (B:a<=200) (n:E.length<=21) (y:E.Pairwise hh) (t:ln b a E):CB ((b:Z),(a:Z),E,())=Y (ru b a E,()):=by
 unfold CB;refine bQ.1 ?_;dsimp only;rw[bk aa];refine bz (h9 aa) (bz (ac3 n y) ?_);dsimp only;refine bE (P:=λr=>r=(((0:Z),((0:Z),([],([],([],()))))),((b:Z),(a:Z),aB (a+1) (λc=>if c=0 then(0:Z) else(jj E ((c:Z)-1):Z)),E.map (λe=>e.1),E.map (λe=>e.2.2.1),()),())) ?_ ?_
 ·refine bO E.length (λd s=>s=((d:Z),((0:Z),((0:Z),([],([],([],()))))),((b:Z),(a:Z),aB (a+1) (λc=>if c=0 then(0:Z) else(jj (E.take d) ((c:Z)-1):Z)),(E.take d).map (λe=>e.1),(E.take d).map (λe=>e.2.2.1),()),E,())) ?_ ?_ ?_
  ·have j:(aB (a+1) λ_=>(0:Z))=aB (a+1) λc=>if c=0 then(0:Z) else(jj (E.take 0) ((c:Z)-1):Z):=c9 λc l=>by split<;>rfl
   rw[jb,j];rfl
  ·rintro d _ k rfl;have q:=t E[d] (b7 k);obtain⟨i,w⟩:=cB q.2.2.1;dsimp only;rw[aY (aK (show(d:Z)<al E by simp only[bh];omega)),js k];have aq:aP E[d].2.1=((i+1:X):Z):=(by rw[w,bk aa]);have p:E.take (d+1)=E.take d++[E[d]]:=(by rw[ct,bS k];rfl);rw[da (by simp;omega),bN,da (by simp;omega),bN,aq];refine bz (eS (by rw[cY];omega)) (bz (gV aa) (bz (eS (by rw[cY];omega)) ?_));rw[gV aa];refine bu.2 ?_;have o:(aB (a+1) (λc=>if c=0 then(0:Z) else(jj (E.take d) ((c:Z)-1):Z))).set (i+1) (aP (if i+1=0 then(0:Z) else(jj (E.take d) (((i+1:X):Z)-1):Z)))=aB (a+1) (λc=>if c=0 then(0:Z) else(jj (E.take (d+1)) ((c:Z)-1):Z)):=by
    rw[hA];refine c9 λc l=>?_;have m:∀g,jj (E.take d) g<=21:=λg=>eD (kR _ _) (by rw[fU];omega);by_cases f:c=i+1
    ·subst f;rw[gI,ax aa,ax aa,bk (by have:=m (((i+1:X):Z)-1);omega),p,LW,au aa]
    rw[hb _ _ f];by_cases h:c=0
    ·rw[au h,au h]
    rw[ax h,ax h,p,LW,ax aa,nc]
   dsimp only[ajI];rw[bk aa,o,p,akT,akT];rfl
  rintro _ rfl;dsimp only;rw[a1 (aI (show¬((E.length:Z)<al E) by simp only[bh];omega)),ch (cj _)];exact bu.2 bn
 rintro _ rfl;dsimp only;refine bE (P:=λr=>r=(((0:Z),((0:Z),([],([],([],()))))),ru b a E,())) ?_ (by rintro _ rfl;exact bu.2 bn);have x:∀g,g0 E g<=21:=λg=>cz (air _ _) n;have m:∀g,jj E g<=21:=λg=>cz (air _ _) n;have v:g0 E 0=0:=by
  unfold g0;rw[akU.2]
  ·rfl
  intro e q;have:=t e q;simpa using this.2.2.1
 refine bO a (λd s=>s=((d:Z),((0:Z),((0:Z),([],([],([],()))))),((b:Z),(a:Z),aB (a+1) (λc=>if c<=d then(g0 E (c:Z):Z) else(jj E ((c:Z)-1):Z)),E.map (λe=>e.1),E.map (λe=>e.2.2.1),()),())) ?_ ?_ ?_
 ·have j:(aB (a+1) λc=>if c=0 then(0:Z) else(jj E ((c:Z)-1):Z))=aB (a+1) (λc=>if c<=0 then(g0 E (c:Z):Z) else(jj E ((c:Z)-1):Z)):=c9 λc l=>by
   by_cases f:c=0
   ·subst f;rw[au bn,au (bc _)];show(0:Z)=((g0 E 0:X):Z);rw[v];rfl
   rw[ax f,ax aa]
  rw[j];rfl
 ·rintro d _ k rfl;dsimp only;rw[aY (aK (aa:(d:Z)<(a:Z))),bk aa,js (by rw[cY];omega),js (by rw[cY];omega),lE,lE];refine bz (eS (by rw[cY];omega)) ?_;rw[gV aa];refine bu.2 ?_;have o:(aB (a+1) (λc=>if c<=d then(g0 E (c:Z):Z) else(jj E ((c:Z)-1):Z))).set (d+1) (ay ((if d+1<=d then(g0 E ((d+1:X):Z):Z) else(jj E (((d+1:X):Z)-1):Z))+(if d<=d then(g0 E (d:Z):Z) else(jj E ((d:Z)-1):Z))))=aB (a+1) (λc=>if c<=d+1 then(g0 E (c:Z):Z) else(jj E ((c:Z)-1):Z)):=by
   rw[hA];refine c9 λc l=>?_;by_cases f:c=d+1
   ·subst f;have u:=GB E (d:Z);have z:=m (d:Z);have A:=x (d:Z);rw[gI,ax aa,au (bc _),au (bc _),(aa:(((d+1:X):Z)-1)=(d:Z)),cL aa aa,(aa:((d+1:X):Z)=(d:Z)+1),u];omega
   rw[hb _ _ f];by_cases h:c<=d
   ·rw[au h,au aa]
   rw[ax h,ax aa]
  dsimp only[ajI];rw[o]
 rintro _ rfl;dsimp only;rw[a1 (aI (aa:¬((a:Z)<(a:Z))))];have j:aB (a+1) (λc=>if c<=a then(g0 E (c:Z):Z) else(jj E ((c:Z)-1):Z))=aB (a+1) (λc=>(g0 E (c:Z):Z)):=c9 λc l=>(by rw[ca aa]);rw[j];exact bu.2 bn
def g7 (b c:Z) (a:cW):bA:=br (a.2.1<b)||(br (a.2.1=b)&&br (a.1<c))
theorem Lm {a:cW} (b:hh t a) (f:g7 j c a=bp):g7 j c t=bp:=by
 unfold g7 at*;simp only[je,cC,aip] at*;rcases b with b|⟨d,e⟩
 ·omega
 omega
theorem ME {j i:Z}:∀{E:bm cW},E.Pairwise hh->E.filter (g7 j i)=E.take (E.filter (g7 j i)).length
 |[],_=>rfl
 |x::E,b=>by
  obtain⟨d,c⟩:=mQ.1 b;by_cases a:g7 j i x=bp
  ·rw[FR a,iZ,List.take_succ_cons];exact b3 _ (ME c)
  grind [akU,Lm,List.filter_cons_of_neg]
theorem Gk {E:bm cW} (d:ln b a E):E.filter (g7 0 0)=[]:=by refine akU.2 λf e c=>?_;have:=d f e;unfold g7 at c;grind
theorem S1 {E:bm cW} (d:ln a b E) (c:Z):E.filter (g7 c (a:Z))=E.filter (g7 (c+1) 0):=by refine py λf e=>?_;have:=d f e;unfold g7;grind
theorem BD {E:bm cW} (d:ln b a E) (c:Z):(E.filter (g7 c 0)).length=g0 E c:=by unfold g0;congr 1;refine py λf e=>?_;have:=d f e;unfold g7;grind
theorem Gl {j i:Z} {E:bm cW} (c:E.Pairwise hh) (h:a<E.length):g7 j i E[a]=bp↔a<(E.filter (g7 j i)).length:=by
 constructor
 ·intro b;have g:∀d∈E.take (a+1),g7 j i d=bp:=by
   grind [Lm,ah1,cl,ajJ]
  grind [aib,anD,akV,ajq]
 intro b;have e:=ME (j:=j) (i:=i) c;have f:E[a]∈E.filter (g7 j i):=(by grind [ajJ]);grind
theorem S3 {j i:Z} {E:bm cW} (o:E.Pairwise hh):(∃d:(E.filter (g7 j i)).length<E.length,E[(E.filter (g7 j i)).length].1=i/\E[(E.filter (g7 j i)).length].2.1=j/\(E.filter (g7 j (i+1))).length=(E.filter (g7 j i)).length+1)\/((∀b,(d:b<E.length)->¬(E[b].1=i/\E[b].2.1=j))/\(E.filter (g7 j (i+1))).length=(E.filter (g7 j i)).length):=by
 have p:∀e:cW,g7 j (i+1) e=bp↔g7 j i e=bp\/(e.1=i/\e.2.1=j):=λe=>(by unfold g7;grind);have w:∀e:cW,e.1=i/\e.2.1=j->¬g7 j i e=bp:=λe k d=>(by simp_all [je,cC,aip,g7]);generalize C:(E.filter (g7 j i)).length=g;generalize D:(E.filter (g7 j (i+1))).length=l;have q:∀a,(f:a<E.length)->(g7 j i E[a]=bp↔a<g):=λa f=>(by grind [Gl]);have m:∀a,(f:a<E.length)->(g7 j (i+1) E[a]=bp↔a<l):=λa f=>(by grind [Gl]);have F:g<=E.length:=(by grind);have G:l<=E.length:=(by grind);by_cases n:∃b,∃d:b<E.length,E[b].1=i/\E[b].2.1=j
 ·obtain⟨b,h,k⟩:=n;have x:¬b<g:=λd=>w _ k ((q b h).2 d);have y:b<l:=(m b h).1 ((p _).2 (.inr k));have r:∀a,(f:a<E.length)->g<=a->a<l->a=b:=λa f A t=>by
   have u:=(p _).1 ((m a f).2 t);have B:E[a].1=i/\E[a].2.1=j:=u.resolve_left λd=>(by grind);rcases r4 a b with c|c|c
   ·have:=h4.1 o a b f h c;rcases this with d|⟨d,s⟩<;>omega
   ·exact c
   have:=h4.1 o b a h f c;rcases this with d|⟨d,s⟩<;>omega
  have v:g=b:=r g aa (bc _) aa;subst v;refine .inl ⟨h,k.1,k.2,?_⟩;rcases cO (g+1) l with c|c
  ·grind
  omega
 refine .inr ⟨λb h k=>n ⟨b,h,k⟩,?_⟩;have z:∀a,a<E.length->(a<l↔a<g):=λa f=>(by grind);rcases r4 l g with c|c|c
 ·grind
 ·exact c
 grind
def ou (b:X) (a:cW):X:=a.2.1.toNat*b+a.1.toNat
theorem abi {E:bm cW} (c:ln a b E) (d:t∈E):ou a t<a*b:=by have e:=c t d;unfold ou;have f:(t.2.1.toNat+1)*a<=b*a:=h5 _ aa;grind
theorem abh {rows:X} {a b:Z×Z} (f:0<=a.1/\a.1<(rows:Z)/\0<=a.2) (g:0<=b.1/\b.1<(rows:Z)/\0<=b.2) (c:a.2.toNat*rows+a.1.toNat=b.2.toNat*rows+b.1.toNat):a.1=b.1/\a.2=b.2:=by have d:(a.2.toNat*rows+a.1.toNat)/rows=a.2.toNat:=(by rw[qD,am6 aa,alU aa,nc]);have e:(b.2.toNat*rows+b.1.toNat)/rows=b.2.toNat:=(by rw[qD,am6 aa,alU aa,nc]);grind
def n8 (b:X) (E:bm cW):X->X->Z
 |0,_=>0
 |i+1,a=>if a=ou b (E.getD i (0,0,0,())) then((i+1:X):Z) else n8 b E i a
theorem LG (c:X) (E:bm cW) (b:X):∀i,(n8 c E i b=0/\∀a,a<i->ou c (E.getD a (0,0,0,()))≠b)\/∃a,a<i/\ou c (E.getD a (0,0,0,()))=b/\n8 c E i b=((a+1:X):Z)
 |0=>.inl ⟨bn,λa e=>absurd e aa⟩
 |i+1=>by
  unfold n8;by_cases d:b=ou c (E.getD i (0,0,0,()))
  ·grind
  rw[ax d];rcases LG c E b i with⟨f,g⟩|⟨a,f,g,h⟩
  ·grind
  grind
theorem Tt (b:X) (E:bm cW) (a:X):eB (n8 b E a) (ou b (E.getD a (0,0,0,()))) ((a+1:X):Z)=n8 b E (a+1):=by grind [n8,eB]
theorem PI (e:b<=200) (d:a<=200) (h:f<=200):ay (ay ((a:Z)*(b:Z))+(f:Z))=((a*b+f:X):Z):=by have g:a*b<=200*200:=mR d e;have c:(a:Z)*(b:Z)=((a*b:X):Z):=aa;rw[c,A6 aa,<-Int.natCast_add,A6 aa]
theorem HO {E:bm cW} (b:a<E.length):E.getD a (0,0,0,())=E[a]:=by grind
def jL (E:bm cW) (b a:Z):X:=(E.filter (g7 b a)).length
def PF (E:bm cW) (b a:Z):jL E b a<=E.length:=kR _ _
def pb (e d:X) (E:bm cW) (a:X) (c:X):e0:=((e:Z),(d:Z),aB (a+1) (λa=>(g0 E (a:Z):Z)),(E.take c).map (λb=>b.1),(E.take c).map (λb=>b.2.2.1),())
theorem aaX {E:bm cW} (x:f<=200) (D:q<=200) (T:E.length<=10000) (J:E.Pairwise hh) (h:ln f q E):Dh ((f:Z),(q:Z),E,())=Y (ru f q E,()):=by
 unfold Dh;refine bQ.1 ?_;dsimp only;have am:f*q<=200*200:=akW x D;have A:ay ((f:Z)*(q:Z))=((f*q:X):Z):=(by rw[<-Int.natCast_mul,A6 aa]);rw[A];refine bz (h9 aa) ?_;have O:g0 E 0=0:=(by rw[<-BD h,Gk h];rfl);refine bE (P:=λl=>l=(((0:Z),((0:Z),([],([],([],()))))),pb f q E 0 0,aB (f*q) (n8 f E E.length),())) ?_ ?_
 ·refine bO E.length (λd m=>m=((d:Z),((0:Z),((0:Z),([],([],([],()))))),pb f q E 0 0,aB (f*q) (n8 f E d),())) ?_ ?_ ?_
  ·have:pb f q E 0 0=((f:Z),((q:Z),([0],(([]:bf),(([]:bf),()))))):=by
    grind [zP,UV,g0,pb]
   rw[jb,this];rfl
  ·rintro d _ k rfl;have g:=h E[d] (b7 k);obtain⟨M,R⟩:=cB g.1;obtain⟨N,S⟩:=cB g.2.2.1;dsimp only;rw[aY (aK (show(d:Z)<al E by grind))];refine bz (e3 k) (bz (e3 k) ?_);have I:ay (ay (E[d].2.1*(f:Z))+E[d].1)=((ou f E[d]:X):Z):=by
    grind [PI,aiA,ou]
   have V:=abi h (cR k);grind [bu,lO,cY,hA,bk,HO,Tt]
  rintro _ rfl;dsimp only;rw[a1 (aI (show¬((E.length:Z)<al E) by grind))];grind [bu]
 rintro _ rfl;dsimp only;refine bE (P:=λl=>l=(((0:Z),((0:Z),([],([],([],()))))),ru f q E,())) ?_ (by grind [bu]);refine bO q (λc m=>m=((c:Z),((0:Z),((0:Z),([],([],([],()))))),pb f q E c (jL E (c:Z) 0),aB (f*q) (n8 f E E.length),())) ?_ ?_ ?_
 ·have:jL E ((0:X):Z) 0=0:=by
   unfold jL;grind [Gk]
  grind
 ·rintro c _ F rfl;dsimp only;rw[aY (aK (aa:(c:Z)<(q:Z)))];refine bE (P:=λl=>l=(((0:Z),((0:Z),([],([],([],()))))),pb f q E c (jL E (c:Z) (f:Z)),aB (f*q) (n8 f E E.length),())) ?_ ?_
  ·refine bO f (λd m=>m=((d:Z),((0:Z),((0:Z),([],([],([],()))))),pb f q E c (jL E (c:Z) (d:Z)),aB (f*q) (n8 f E E.length),())) rfl ?_ ?_
   ·rintro d _ k rfl;dsimp only;rw[aY (aK (aa:(d:Z)<(f:Z))),PI x aa aa];have I:c*f+d<f*q:=by
     have o:(c+1)*f<=q*f:=h5 _ F;grind
    rw[js (by grind [cY]),lE];have w:=PF E (c:Z) (d:Z);have p:=S3 (j:=(c:Z)) (i:=(d:Z)) J;change(∃n:jL E (c:Z) (d:Z)<E.length,E[jL E (c:Z) (d:Z)].1=(d:Z)/\E[jL E (c:Z) (d:Z)].2.1=(c:Z)/\jL E (c:Z) ((d:Z)+1)=jL E (c:Z) (d:Z)+1)\/((∀u,(n:u<E.length)->¬(E[u].1=(d:Z)/\E[u].2.1=(c:Z)))/\jL E (c:Z) ((d:Z)+1)=jL E (c:Z) (d:Z)) at p;rw[show(d:Z)+1=((d+1:X):Z) from by omega] at p;generalize jL E (c:Z) (d:Z)=z at*;rw[bk aa];have G:∀e,(n:e<E.length)->ou f E[e]=c*f+d->E[e].1=(d:Z)/\E[e].2.1=(c:Z):=(by intro e n ad;have g:=h E[e] (cR n);exact abh (rows:=f) (a:=(E[e].1,E[e].2.1)) (b:=((d:Z),(c:Z))) ⟨g.1,g.2.1,g.2.2.1⟩ ⟨aa,aa,aa⟩ (by grind [ou]));rcases LG f E (c*f+d) E.length with⟨L,av⟩|⟨e,t,y,K⟩
    ·rw[L];rcases p with⟨o,s,B,C⟩|⟨o,s⟩
     ·grind [aiA,HO,ou,absurd]
     rw[a1 (aI aa)];grind [bu,bz]
    rw[K];rw[HO t] at y;obtain⟨aw,ap⟩:=G e t y;rcases p with⟨o,s,B,C⟩|⟨o,s⟩
    ·have H:e=z:=by
      rcases r4 e z with r|r|r
      ·grind [ah1,hh]
      ·exact r
      grind [ah1,hh]
     subst H;rw[aY (aK aa),(aa:((e+1:X):Z)-1=(e:Z)),A6 aa];unfold pb;dsimp only;rw[da (by grind),bN];have an:E.take (e+1)=E.take e++[E[e]]:=(by simp_all);rw[e3 t,bN,da (by grind),bN,bN];grind [bu]
    grind
   rintro _ rfl;dsimp only;rw[a1 (aI (aa:¬((f:Z)<(f:Z))))];grind [bu]
  rintro _ rfl;have w:=PF E (c:Z) (f:Z);have aq:jL E (c:Z) (f:Z)=jL E ((c+1:X):Z) 0:=(by grind [S1,jL]);have Q:jL E ((c+1:X):Z) 0=g0 E ((c+1:X):Z):=BD h _;rw[aq] at w|-;unfold pb;dsimp only;have U:al ((E.take (jL E ((c+1:X):Z) 0)).map λv=>v.1)=(g0 E ((c+1:X):Z):Z):=(by grind);grind [bu,da,cY,zP,bk]
 rintro _ rfl;dsimp only;rw[a1 (aI (aa:¬((q:Z)<(q:Z))))];have aq:jL E (q:Z) 0=E.length:=(by unfold jL;rw[ajq.2];intro v g;have:=h v g;simp_all [Bool.or_eq_true,Bool.and_eq_true,aip,g7]);have:pb f q E q (jL E (q:Z) 0)=ru f q E:=(by simp_all [ch,cj,pb,ru]);grind [bu]
theorem wk {E:bm cW} (h:E.Pairwise hh) (e:ln f b E) (g:a<E.length) (c:Z):E[a].2.1<c↔a<g0 E c:=by have d:=Gl (j:=c) (i:=0) h g;rw[BD e] at d;rw[<-d];have:=e E[a] (cR g);unfold g7;grind
theorem LQ {E:bm cW} (c:ln b a E):g0 E 0=0:=by rw[<-BD c,Gk c];rfl
theorem LP {E:bm cW} (c:ln b a E):g0 E (a:Z)=E.length:=by unfold g0;rw[mO.2];intro e d;have:=c e d;grind
theorem UT {c:X->Z} (d:a<b):(aB b c).getD a 0=c a:=by grind [jl]
theorem DY {E:bm cW} (c:a<E.length):(E.map λb=>b.1).getD a 0=E[a].1:=by grind
theorem Vu {E:bm cW} (c:a<E.length):(E.map λb=>b.2.2.1).getD a 0=E[a].2.2.1:=by grind
def vz (a:X) (E:bm cW):ahZ:=aB (a+1) (λb=>(g0 E (b:Z):Z))
theorem vA {E:bm cW} (c:a<=b):(vz b E).getD a 0=(g0 E (a:Z):Z):=UT aa
theorem GA (E:bm cW) (a:Z):g0 E a<=E.length:=kR _ _
theorem adj {E:bm cW} (i:E.Pairwise hh) (d:ln b a E):gz b a (vz a E) (E.map λj=>j.1) (E.map λj=>j.2.2.1) where
 len:=cY _ _
 first:=by rw[vA (c8 _)];grind [LQ]
 mono:=λe k=>by grind [vA,GB]
 last:=by rw[vA (bc _),LP d,ff]
 val:=by simp
 rng:=λe f k g h=>by rw[vA aa] at g h;have c:f<E.length:=(by grind [GA]);rw[DY c];have:=d E[f] (cR c);omega
 asc:=λe f k g h=>by rw[vA aa] at g h;have c:f<E.length:=(by grind [GA]);rw[DY c,DY aa];have l:=wk i d c (e:Z);have m:=wk i d c ((e+1:X):Z);have n:=wk i d (aa:f-1<E.length) (e:Z);grind [ah1,wk,hh]
theorem JO {rows c3:X} {E:bm cW} (c:rows<=200) (b:c3<=200) (f:E.length<=10000) (e:∀a∈E,eK a.2.2.1):ji rows c3 (vz c3 E) (E.map λa=>a.1) (E.map λa=>a.2.2.1) where
 hr:=c
 hc:=b
 hi:=by grind
 hs:=by grind [cY,vz]
 hv:=by grind
 hw:=λg d=>by grind
def Hn (c f:ahZ) (d:Z) (b a:X):iP c f d b a=aB a λe=>(c.getD (b+e) 0,d,f.getD (b+e) 0,()):=by
 induction a with
 |zero=>rfl
 |succ a g=>rw[iP,g,zP]
theorem Uo {E:bm cW} (i:E.Pairwise hh) (h:ln b a E):∀c,c<=a->c6 (vz a E) (E.map λf=>f.1) (E.map λf=>f.2.2.1) c=E.take (g0 E (c:Z)):=by
 intro c
 induction c with
 |zero=>
  intro _;show[]=E.take (g0 E 0);grind [LQ]
 |succ c q=>
  intro t;rw[c6,q aa,vA aa,vA aa,Hn,fC,fC];have n:g0 E ((c+1:X):Z)=g0 E (c:Z)+jj E (c:Z):=(by grind [GB]);have o:=GA E ((c+1:X):Z);have j:∀d,(e:d<E.length)->g0 E (c:Z)<=d->d<g0 E ((c+1:X):Z)->E[d].2.1=(c:Z):=λd e l m=>(by have r:=wk i h e (c:Z);have s:=wk i h e ((c+1:X):Z);omega);rw[n] at j o|-;generalize g0 E (c:Z)=k at*;generalize jj E (c:Z)=g at*;rw[r2,List.take_add];congr 1;have p:((E.drop k).take g).length=g:=(by grind);refine yl (by rw[cY,p]) λu l m=>?_;grind [lE,DY,Vu,cY]
def Ho {E:bm cW} (e:E.Pairwise hh) (d:ln b a E):c6 (vz a E) (E.map λc=>c.1) (E.map λc=>c.2.2.1) a=E:=by rw[Uo e d a (bc _),LP d,fG (bc _)]
theorem U5 {E:bm cW} (b:∀a∈E,bd a.2.2.1≠2047):nU (E.map λa=>a.2.2.1):=by intro d c;grind
def Gz {E:bm cW} (f:E.Pairwise hh) (e:ln b a E) (d:∀c∈E,bd c.2.2.1≠2047):gE b a (vz a E) (E.map λc=>c.1) (E.map λc=>c.2.2.1)=0:=
 jG.2 ⟨adj f e,U5 d⟩
theorem q8 (e:gz b a d h i):ln b a (c6 d h i a):=by intro n f;obtain⟨c,g,f⟩:=Af.1 f;obtain⟨j,k,rfl⟩:=va.1 f;have l:=e.pos c aa;have m:=e.pos (c+1) aa;have:=e.rng c ((d.getD c 0).toNat+j) g aa aa;grind
theorem rc (c:gz b a i h d) {g:Z->Prop} (m:∀k∈d,g k):∀j∈c6 i h d a,g j.2.2.1:=by intro j f;obtain⟨e,l,f⟩:=Af.1 f;obtain⟨s,n,rfl⟩:=va.1 f;have q:=c.pos e aa;have r:=c.pos (e+1) aa;have o:=c.p5 (e+1) aa;have p:=c.val;grind
theorem DN (b:nU d):∀a∈d,bd a≠2047:=by intro a e;obtain⟨f,c,rfl⟩:=ht.1 e;have:=b f c;grind
def sZ (a:cW):bA:=br (a.1>=a.2.1)
def g3 (E:bm cW):bm cW:=E.filter sZ
def xA {E:bm cW} (a:E.Pairwise hh):(g3 E).Pairwise hh:=am7 tL a
def xz {E:bm cW} (c:ln b a E):ln b a (g3 E):=λe d=>c e (hq.1 d).1
def WO {E:bm cW}:∀a∈g3 E,a.2.1<=a.1:=λa b=>by have:=(hq.1 b).2;unfold sZ at this;simpa using this
def Q1 {b:k->bA} {E:bm k} (d:a<E.length):(E.take (a+1)).filter b=(E.take a).filter b++(if b E[a]=bp then[E[a]] else[]):=by
 rw[hN,ba d,px];congr 1;show[E[a]].filter b=_;by_cases c:b E[a]=bp
 ·rw[au c,FR c];rfl
 rw[ax c,FQ c];rfl
def IF:∀(a:ahY) (b:X),a.Pairwise (· < ·)->(∀x∈a,x<b)->a.length<=b
 |[],_,_,_=>c8 _
 |x::a,b,i,d=>by
  obtain⟨c,j⟩:=mQ.1 i;have p:=d x ac;have:=IF (a.map λf=>f-(x+1)) (b-(x+1)) (by
   rw[oK];refine tI ?_ j;intro h m k o n;have:=c h k;omega) (by
   intro f l;obtain⟨g,e,rfl⟩:=eY.1 l;have:=c g e;have:=d g (by simp[e]);omega)
  rw[ff] at this;rw[iZ];omega
def IN (a:Z):Z:=if a=0 then 0 else if a=1 then 5 else if a=2 then 9 else if a=3 then 12 else if a=4 then 14 else 15
def WQ (s:a<=6) {E:bm cW} (o:E.Pairwise hh) (c:ln a a E) (d:∀b∈E,b.2.1<=b.1):E.length<=21:=by
 have m:=IF (E.map λb=>(IN b.2.1+b.1).toNat) 21 (by
  rw[oK];refine tI ?_ o;intro e f g h n;have k:=c e g;have q:=c f h;have l:=d e g;have r:=d f h;unfold hh at n;unfold IN;split<;>split<;>(try split)<;>(try split)<;>(try split)<;>(try split)<;>(try split)<;>(try split)<;>(try split)<;>(try split)<;>omega) (by
  intro t p;obtain⟨j,i,rfl⟩:=eY.1 p;have k:=c j i;have l:=d j i;unfold IN;split
  ·omega
  split
  ·omega
  split
  ·omega
  split
  ·omega
  split<;>omega)
 rwa[ff] at m
structure mK (n:X) (st mV qn:ahZ):Prop where
 xH:n<=7
 el:(g3 (c6 st mV qn n)).length<=21
def mK.Ow (c:a<=6) (b:gE a a h d i=0):mK a h d i:=
 ⟨aa,eD (WQ c (xA (q9 (jG.1 b).1 a (bc _))) (xz (q8 (jG.1 b).1)) WO) ab⟩
def mK.XT (c:a<=5) (b:gE a a h d i=0):mK a h d i:=mK.Ow (eD c ab) b
def RW (j:mK a h d i) (b:ji a a h d i) (l:gE a a h d i=0):CA (((a:Z),(a:Z),h,d,i,()),())=Y (ru a a (g3 (c6 h d i a)),0,()):=by
 have f:=(jG.1 l).1;have m:=q9 f a (cj _);have n:=q8 f;have s:=j.el;have t:=j.xH;have r:(c6 h d i a).length<=10000:=(by rw[zM f a (cj _)];have:=f.p5 a (cj _);have:=b.hi;omega);unfold CA;refine ai b.check ?_;dsimp only;rw[l,fX,aK bn];refine ai (Hp f b.hc b.hi) ?_;dsimp only;generalize c6 h d i a=E at*;refine bQ.1 ?_;refine bE (P:=λo=>o=(((0:Z),((0:Z),([],([],([],()))))),g3 E,())) ?_ ?_
 ·refine bO E.length (λc p=>p=((c:Z),((0:Z),((0:Z),([],([],([],()))))),g3 (E.take c),E,())) rfl ?_ ?_
  ·rintro c _ k rfl;dsimp only;rw[aY (aK (show(c:Z)<al E by simp only[bh];omega)),js k,bk aa];have q:(g3 (E.take c)).length<=10000:=cz (air _ _) (by rw[aib];omega);unfold g3 at*;rw[Q1 k];by_cases g:sZ E[c]=bp
   ·have e:=g;unfold sZ at e;rw[aY e,au g,da (by simp only[iZ,oI];omega)];exact bu.2 bn
   have e:=g;unfold sZ at e;rw[a1 (by simpa using e),ax g,mN];exact bu.2 bn
  rintro _ rfl;dsimp only;rw[a1 (aI (show¬((E.length:Z)<al E) by simp only[bh];omega)),ch (cj _)];exact bu.2 bn
 rintro _ rfl;dsimp only;exact bz (Tj b.hr b.hc aa (xA m) (xz n)) (bu.2 bn)
def Jm (k:mK a h d i) (e:ji a a h d i) (j:gE a a h d i=0):sB (((a:Z),(a:Z),h,d,i,()),())=Y (ru a a (g3 (c6 h d i a)),0,()):=by
 have g:=(jG.1 j).1;have m:=q9 g a (cj _);have n:=q8 g;have s:=k.el;have t:=k.xH;have r:(c6 h d i a).length<=10000:=(by rw[zM g a (cj _)];have:=g.p5 a (cj _);have:=e.hi;omega);unfold sB;refine ai e.xR ?_;dsimp only;rw[j,fX,aK bn];refine ai (PQ e j) ?_;dsimp only;generalize c6 h d i a=E at*;refine bQ.1 ?_;refine bE (P:=λo=>o=(((0:Z),((0:Z),([],([],([],()))))),g3 E,())) ?_ ?_
 ·refine bO E.length (λb p=>p=((b:Z),((0:Z),((0:Z),([],([],([],()))))),g3 (E.take b),())) rfl ?_ ?_
  ·rintro b _ l rfl;dsimp only;rw[aY (aK (show(b:Z)<al E by simp only[bh];omega)),e3 l,bk aa];have q:(g3 (E.take b)).length<=10000:=cz (air _ _) (by rw[aib];omega);unfold g3 at*;rw[Q1 l];by_cases f:sZ E[b]=bp
   ·have c:=f;unfold sZ at c;rw[aC,aC,aY c,au f,aC,da (by simp only[iZ,oI];omega)];exact bu.2 bn
   have c:=f;unfold sZ at c;rw[aC,aC,a1 (by simpa using c),ax f,mN];exact bu.2 bn
  rintro _ rfl;dsimp only;rw[a1 (aI (show¬((E.length:Z)<al E) by simp only[bh];omega)),ch (cj _)];exact bu.2 bn
 rintro _ rfl;dsimp only;exact bz (aaX e.hr e.hc aa (xA m) (xz n)) (bu.2 bn)
def j1 (b:ew) (a:ahZ):eu:=(bI a.length).map λ(c:X)=>(bI a.length).map λ(d:X)=>br (a.getD d 0∈b.getD (a.getD c 0).toNat [])
theorem xj (b:ew) (a:ahZ):(j1 b a).length=a.length:=by simp[j1]
theorem Gn (c:a<d.length) (e:b<d.length):hx (j1 l d) a b=br (d.getD b 0∈l.getD (d.getD a 0).toNat []):=by grind [aiJ,hx,j1]
theorem ady (f:0<=c/\c<l.length) (g:0<=j/\j<l.length):∃a,ao (oA l) c=Y a/\ao a j=Y (br (j∈l.getD c.toNat [])):=by
 have d:c.toNat<l.length:=aa;have e:j.toNat<l.length:=aa;refine⟨(bI l.length).map λ(b:X)=>br ((b:Z)∈l[c.toNat]),?_,?_⟩
 ·simp_all [au,Q0,ao]
 unfold ao;grind
theorem RT (B:fk l) (w:∀d∈l,d.length<4611686018427387904) (G:l.length<=200) (s:∀m∈d,0<=m/\m<(l.length:Z)) (D:d.Nodup) (R:d.length<=400):Dk ((l,()),d,())=Y ((jI (j1 l d),()),0,()):=by
 classical
 rw[<-bQ];unfold Dk;have C:iy l=0:=(by simp_all [ax,au,iy]);have aq:br (∀m∈d,0<=m/\m<(l.length:Z))=bp:=ah3 s;have A:br (¬d.Nodup)=bq:=aiy (λb=>b D);simp only[AN l w,C,R3 d _ aa,aq,Sb d aa,A,KN w G (λg K=>(B.asc g K).2),Mn d.length aa,aC,bne_self_eq_false,bP,gR];simp only[bX];refine cy (P:=λu=>u.2.1=j1 l d) ?_ ?_
 ·refine ae.for (i0:=0) d.length (λa v=>v.2.1=(bI d.length).map λ(g:X)=>if g<a then(j1 l d).getD g [] else bJ d.length bq) rfl ?_ (c8 _) ?_ ?_
  ·apply hM;grind
  ·rintro a ⟨x,o,_⟩ _ i e;simp only at e;simp only[bZ,bX];refine⟨λ_=>?_,λp=>by grind⟩;refine cy (P:=λu=>u.2.1=(bI d.length).map λ(g:X)=>if g<a+1 then(j1 l d).getD g [] else bJ d.length bq) ?_ (by grind [iO,bu]);refine ae.for (i0:=0) d.length (λc v=>v.2.1=o.set a ((bI d.length).map λ(h:X)=>if h<c then hx (j1 l d) a h else bq)) rfl ?_ (c8 _) ?_ ?_
   ·show o=_;apply hM;intro f;rw[vX];by_cases k:a=f
    ·subst k;rw[au bn,e];simp[i,alY]
    grind
   ·rintro c ⟨O,n,_⟩ _ r j;simp only at j;have L:=s _ (cR i);have M:=s _ (cR r);obtain⟨N,H,I⟩:=ady L M;have S:n.length=d.length:=(by grind);have q:a<n.length:=aa;have J:n[a]=(bI d.length).map λ(h:X)=>if h<c then hx (j1 l d) a h else bq:=by
     grind
    have E:ao d (a:Z)=Y d[a]:=gN (ba i);have F:ao d (c:Z)=Y d[c]:=gN (ba r);simp only[bZ,bX,ae.D5,E,F,H,I,bu,ae.BC,ae.It,fC];refine⟨λ_=>⟨⟨aa,q⟩,q,⟨aa,by grind⟩,q,by grind,iO aa,?_⟩,λp=>by grind⟩;rw[J,j,List.set_set];congr 1;apply hM;intro f;rw[vX,jg,jg];rcases cO f d.length with b|b
    ·rw[Bi b];simp only[i9,ff,mP];by_cases k:c=f
     ·subst k;have y:d.getD c 0=d[c]:=(by grind);have z:d.getD a 0=d[a]:=(by grind);rw[au bn,au b,au aa,Gn i r,y,z]
     grind
    grind
   rintro⟨O,n,_⟩ j;simp only at j;simp only[bZ,bu];refine⟨λp=>by grind,λ_=>?_⟩;rw[j,e];apply hM;intro f;rw[vX,jg,jg];rcases cO f d.length with b|b
   ·rw[Bi b];simp only[i9,ff,mP];by_cases k:a=f
    ·subst k;rw[au bn,au b,au aa];congr 1;have:(j1 l d).getD a []=(bI d.length).map λ(h:X)=>hx (j1 l d) a h:=by
      have Q:(j1 l d).getD a []=(bI d.length).map λ(c:X)=>br (d.getD c 0∈l.getD (d.getD a 0).toNat []):=(by simp[j1,aiJ,i]);grind [Gn,aii]
     simp_all
    grind
   grind
  rintro⟨x,o,_⟩ e;simp only at e;simp only[bZ,bu];refine⟨λp=>by grind,λ_=>?_⟩;rw[e];apply hM;intro f;rw[jg];rcases cO f d.length with b|b
  ·simp_all [au,ba,xj,i9,Bi,aiJ]
  grind [ajE,xj]
 rintro⟨x,o,_⟩ e;simp only at e;subst e;rw[Kz]
 ·grind [bu]
 ·intro N t;unfold j1 at t;simp only[eY] at t;obtain⟨a,_,rfl⟩:=t;simp[j1]
 grind [xj]
section
inductive iH (A:X->X->Prop) (P:X->Prop):X->X->Prop
 |one {i j:X}:A i j->iH A P i j
 |step {i m j:X}:A i m->P m->iH A P m j->iH A P i j
section
variable {A:X->X->Prop} {P:X->Prop}
def iH.trans (c:iH A P b a) (e:P a) (d:iH A P a f):iH A P b f:=by
 induction c with
 |one c=>exact .step c e d
 |step c g _ h=>exact .step c g (h e d)
def iH.symm (f:∀d e,A d e->A e d) (c:iH A P a b):iH A P b a:=by
 induction c with
 |one c=>exact .one (f _ _ c)
 |step c g _ h=>exact h.trans g (.one (f _ _ c))
theorem iH.mono (f:∀d,P d->u d) (c:iH A P a b):iH A u a b:=by
 induction c with
 |one c=>exact .one c
 |step c e _ g=>exact .step c (f _ e) g
def iH.insert_iff:iH A (λg=>P g\/g=f) a b↔iH A P a b\/(iH A P a f/\iH A P f b):=by
 constructor
 ·intro c
  induction c with
  |one c=>exact .inl (.one c)
  |@step a m b c h _ d=>
   rcases h with h|rfl
   ·rcases d with d|⟨l,i⟩
    ·exact .inl (.step c h d)
    exact .inr ⟨.step c h l,i⟩
   rcases d with d|⟨_,i⟩
   ·exact .inr ⟨.one c,d⟩
   exact .inr ⟨.one c,i⟩
 rintro(c|⟨j,k⟩)
 ·exact c.mono λg e=>.inl e
 exact(j.mono λg e=>.inl e).trans (.inr bn) (k.mono λg e=>.inl e)
def iH.none:iH A (λ_=>b6) a b↔A a b:=by
 constructor
 ·intro c;cases c with
  |one c=>exact c
  |step _ c _=>exact c.elim
 exact .one
theorem Rs:qN A f a b↔iH A (λg=>g<f) a b:=by
 constructor
 ·intro c
  induction c with
  |one c=>exact .one c
  |step c d _ e=>exact .step c d e
 intro c
 induction c with
 |one c=>exact .one c
 |step c d _ e=>exact .step c d e
end
end
section
theorem ac5:∀{b a:ahZ},b.Pairwise (· < ·)->a.Pairwise (· < ·)->(∀c,c∈b↔c∈a)->b=a:=by
 intro b
 induction b with
 |nil=>
  intro a _ _ d;cases a with
  |nil=>rfl
  |cons e a=>grind [alZ]
 |cons c b h=>
  intro a f g d;cases a with
  |nil=>grind
  |cons e a=>
   grind [alZ,ajR]
structure ye (mS:ew) (S:X->Prop) (T:eu) (gone:ahV):Prop where
 Fq:T.length=mS.length
 rows:∀v,(h:v<T.length)->T[v].length=mS.length
 uY:gone.length=mS.length
 M1:∀v,(h:v<gone.length)->(gone[v]=bp↔S v)
 J3:∀u w,(aeW:u<T.length)->(hw:w<T[u].length)->¬S u->¬S w->(T[u][w]=bp↔u≠w/\iH (jS mS) S u w)
def lI (b:eu) (c:ahV) (e d:X):ahZ:=((bI d).filter λa=>hx b e a&&!c.getD a bq).map λ(a:X)=>(a:Z)
theorem Iv {b:eu} (a:ye l u b x) {v w:X} (k:v<l.length) (g:¬u v):(w:Z)∈lI b x v l.length↔w<l.length/\¬u w/\v≠w/\iH (jS l) u v w:=by
 unfold lI;simp only[eY,hq,ig,cC,tC];have m:∀w,w<l.length->((hx b v w=bp/\x.getD w bq=bq)↔¬u w/\v≠w/\iH (jS l) u v w):=by
  intro w h;have e:v<b.length:=(by rw[a.Fq];exact k);have f:w<b[v].length:=(by rw[a.rows v e];exact h);have i:w<x.length:=(by rw[a.uY];exact h);have j:x.getD w bq=x[w]:=(by grind);rw[wo e f,j,Bool.eq_false_iff,ne_eq,a.M1 w i];constructor
  ·rintro⟨c,d⟩;exact⟨d,(a.J3 v w e f g d).1 c⟩
  rintro⟨c,d⟩;exact⟨(a.J3 v w e f g c).2 d,c⟩
 grind
theorem IG (b:eu) (c:ahV) (d a:X):(lI b c d a).length<=a:=by grind [cz,air,cm,lI]
theorem IH (e:c∈lI v x b a):∃d:X,c=(d:Z)/\d<a:=by grind [lI]
theorem KF (l:v.length=b) (u:∀a,(e:a<v.length)->v[a].length=b) (n:x.length=b) (s:b<=4294967296) (w:a<b):zA (Y (v,x,()),(a:Z),())=Y (lI v x a b,()):=by
 rw[<-bQ];unfold zA;have r:hB=4294967296:=rfl;simp only[bX,bu];refine cy (P:=λd=>d.1=lI v x a b) ?_ (by grind);refine ae.for (i0:=0) b (λi k=>k.1=lI v x a i) rfl rfl (c8 _) ?_ ?_
 ·rintro c ⟨j,_⟩ _ y f;simp only at f;have t:=IG v x a c;simp only[aC];rw[bZ];refine⟨λ_=>?_,λm=>by grind⟩;rw[bX,bX];have g:a<v.length:=aa;have h:c<v[a].length:=(by grind);have o:ao v (a:Z)=Y v[a]:=gN (ba g);have p:ao v[a] (c:Z)=Y v[a][c]:=gN (ba h);have q:ao x (c:Z)=Y (x.getD c bq):=gN (by grind);refine cy (P:=λd=>d=((hx v a c&&!x.getD c bq),j,())) ?_ ?_
  ·simp_all [bX,bZ,bu,wo]
  rintro _ rfl;simp only[bZ,bX,bu,ae.xv];refine⟨λe=>⟨by grind,iO aa,?_⟩,λe=>⟨iO aa,?_⟩⟩
  ·simp_all [au,nY,akX,i5,px,jh,lI]
  simp_all [i5,px,jh,nY,akX,ax,lI]
 simp_all [aC,bZ,bu]
theorem S6 (e:a<v.length) (f:b<v[a].length) (c d:X):hx (v.set a (v[a].set b bp)) c d=(hx v c d||(c==a&&d==b)):=by grind [hx]
theorem Oh (a:eu) (b:ahV) (d c:X):(lI a b d c).Pairwise (· < ·):=JP _ _
theorem RH (K:v.length=a) (O:∀b,(g:b<v.length)->v[b].length=a) (ap:x.length=a) (av:a<=4294967296) (a0:b<a):ae (zz ((v,x,()),(b:Z),())) (λp=>p.1.2.1=x.set b bp/\p.1.1.length=a/\(∀b,(g:b<p.1.1.length)->p.1.1[b].length=a)/\∀d c,d<a->c<a->(hx p.1.1 d c=bp↔hx v d c=bp\/((d:Z)∈lI v x b a/\(c:Z)∈lI v x b a/\d≠c))):=by
 unfold zz;simp only[KF K O ap av a0,aC];have am:=IG v x b a;have E:∀I∈lI v x b a,∃c:X,I=(c:Z)/\c<a:=λI Q=>IH Q;have an:=Oh v x b a;generalize lI v x b a=f at am E an;have a3:∀l m:X,(g:l<f.length)->(ad:m<f.length)->f[l]=f[m]->l=m:=λl m g ad J=>by
  rcases r4 l m with C|C|C
  ·grind [ah1]
  ·exact C
  grind [ah1]
 simp only[bX];refine cy (P:=λe:dM×bt=>e.1.2.1=x/\e.1.1.length=a/\(∀b,(g:b<e.1.1.length)->e.1.1[b].length=a)/\∀d c,d<a->c<a->(hx e.1.1 d c=bp↔hx v d c=bp\/((d:Z)∈f/\(c:Z)∈f/\d≠c))) ?_ ?_
 ·refine ae.for (i0:=0) f.length (λh e=>e.1.2.1=x/\e.1.1.length=a/\(∀b,(g:b<e.1.1.length)->e.1.1[b].length=a)/\∀d c,d<a->c<a->(hx e.1.1 d c=bp↔hx v d c=bp\/((d:Z)∈f.take h/\(c:Z)∈f/\d≠c))) rfl ⟨bn,K,O,λd c _ _=>by simp⟩ (c8 _) ?_ ?_
  ·rintro h ⟨⟨R,S,_⟩,_⟩ _ H ⟨q,r,s,D⟩;simp only at q r s D;simp only[bZ,bX];refine⟨λ_=>?_,λM=>by grind⟩;refine cy (P:=λe:dM×bt=>e.1.2.1=x/\e.1.1.length=a/\(∀b,(g:b<e.1.1.length)->e.1.1[b].length=a)/\∀d c,d<a->c<a->(hx e.1.1 d c=bp↔hx v d c=bp\/((d:Z)∈f.take (h+1)/\(c:Z)∈f/\d≠c))) ?_ (by grind [iO,bu]);obtain⟨j,L,bl⟩:=E _ (cR H);refine ae.for (i0:=0) f.length (λk e=>e.1.2.1=x/\e.1.1.length=a/\(∀b,(g:b<e.1.1.length)->e.1.1[b].length=a)/\∀d c,d<a->c<a->(hx e.1.1 d c=bp↔hx v d c=bp\/((d:Z)∈f.take h/\(c:Z)∈f/\d≠c)\/(d=j/\(c:Z)∈f.take k/\d≠c))) rfl ⟨q,r,s,λd c w y=>by grind⟩ (c8 _) ?_ ?_
   ·rintro k ⟨⟨A,T,_⟩,_⟩ _ u ⟨i,n,o,z⟩;simp only at i n o z;obtain⟨B,F,bs⟩:=E _ (cR u);have U:ao f (h:Z)=Y (j:Z):=gN (by rw[ba H,L]);have V:ao f (k:Z)=Y (B:Z):=gN (by rw[ba u,F]);have t:j<A.length:=aa;have G:B<A[j].length:=(by grind);simp only[bZ,bX,U,V,bu,ae.D5,ae.BC,ae.It,fC];refine⟨λ_=>⟨λN=>⟨⟨aa,t⟩,t,⟨aa,G⟩,t,G,iO aa,i,by grind,λI Q=>?_,λd c w y=>?_⟩,λbx=>⟨iO aa,i,n,o,λd c w y=>?_⟩⟩,λM=>by grind⟩
    ·rw[am8];grind
    ·have N:h≠k:=(by grind);have a4:j≠B:=λJ=>N (a3 h k H u (by rw[L,F,J]));rw[S6 t G,je,z d c w y,<-tr u,F,hX,gd];grind
    grind [tr,ah4]
   rintro⟨⟨A,T,_⟩,_⟩ ⟨i,n,o,z⟩;simp only at i n o z;simp only[bZ,bu];refine⟨λM=>by grind,λ_=>⟨i,n,o,λd c w y=>?_⟩⟩;grind [cA,tr,ah4]
  rintro⟨⟨R,S,_⟩,_⟩ ⟨q,r,s,D⟩;simp only at q r s D;simp only[bZ,bu];grind
 grind [bX,ae.D5,ae.BC,bu,ae.It,aiA]
theorem RG (F:fk l) (G:l.length<=4294967296) (b:ye l u v x) (j:a<l.length) (p:¬u a):ae (zz ((v,x,()),(a:Z),())) (λB=>ye l (λg=>u g\/g=a) B.1.1 B.1.2.1):=by
 refine(RH b.Fq b.rows b.uY G j).mono ?_;rintro⟨⟨M,h,_⟩,_⟩ ⟨k,m,n,o⟩;simp only at k m n o|-;subst k;have s:=akY F;refine⟨m,n,by rw[aj5];exact b.uY,λg N=>?_,λc e H I q r=>?_⟩
 ·rw[am8];by_cases J:a=g
  ·grind
  rw[ax J,b.M1];grind
 have t:c<l.length:=aa;have y:e<l.length:=(by grind);have:=o c e t y;rw[wo H I] at this;have i:c<v.length:=(by rw[b.Fq];omega);have w:e<v[c].length:=(by rw[b.rows c i];omega);have z:¬u c:=λd=>q (.inl d);have A:¬u e:=λd=>r (.inl d);have K:a≠c:=λd=>q (.inr d.symm);have L:a≠e:=λd=>r (.inr d.symm);rw[this,wo i w,b.J3 c e i w z A,Iv b j p,Iv b j p,iH.insert_iff];constructor
 ·rintro(⟨h,f⟩|⟨⟨_,_,_,f⟩,⟨_,_,_,D⟩,E⟩)
  ·grind
  exact⟨E,.inr ⟨f.symm s,D⟩⟩
 rintro⟨h,f|⟨f,C⟩⟩
 ·grind
 exact .inr ⟨⟨t,z,K,f.symm s⟩,⟨y,A,L,C⟩,h⟩
theorem RC (e:fk l) (j:∀n∈l,n.length<4611686018427387904) (k:l.length<=200):ae (Dl ((l,()),())) (λg=>ye l (λ_=>b6) g.1.1 g.1.2.1):=by
 unfold Dl;have o:hB=4294967296:=rfl;simp only[KN j k (λc m=>(e.asc c m).2),aC,bX,ae.Is,bu,fC];refine⟨⟨aa,aa,aa⟩,JZ l,λc i=>?_,ac,λc i=>by simp,λb d p q _ _=>?_⟩
 ·simp[oA]
 rw[iH.none];have f:b<l.length:=(by grind [JZ]);have r:d<l.length:=(by grind [oA]);have h:(oA l)[b][d]=br ((d:Z)∈l[b]):=(by grind [oA,aiJ]);rw[h,aip];constructor
 ·exactλa=>⟨jS.ne e ⟨f,a⟩,f,a⟩
 exactλa=>a.2.2
open Classical in
theorem ab6 (i:fk l) (j:∀s∈l,s.length<4611686018427387904) (p:l.length<=200):zB ((l,()),())=Y ((bI l.length).map (g1 l),0,()):=by
 rw[<-bQ];unfold zB;have A:hB=4294967296:=rfl;have n:iy l=0:=(by simp_all [ax,au,iy]);simp only[AN l j,n,aC,bne_self_eq_false,bP];simp only[bX];refine(RC i j p).mono ?_;rintro⟨⟨f,g,_⟩,_⟩ c;simp only at c;simp only[bX];refine cy (P:=λt=>t.1=(bI l.length).map (g1 l)) ?_ (by grind [bu]);refine ae.for (i0:=0) l.length (λa h=>h.2.1=(bI a).map (g1 l)/\ye l (λk=>k<a) h.1.1 h.1.2.1) rfl ⟨bn,?_⟩ (c8 _) ?_ ?_
 ·grind
 ·rintro a ⟨⟨f,g,_⟩,C,_⟩ _ e ⟨q,c⟩;simp only at q c;have B:=IG f g a l.length;have y:[(a:Z)]++lI f g a l.length=g1 l a:=by
   have o:=λd=>Iv c (v:=a) (w:=d) e (ajY a);refine ac5 ?_ (LX l a) ?_
   ·rw[yr,mQ];grind [IH,Oh]
   intro k;constructor
   ·intro b;rw[yr,fV] at b;rcases b with rfl|b
    ·exact u9.2 ⟨e,.inl bn⟩
    obtain⟨d,rfl,_⟩:=IH b;have:=(o d).1 b;exact u9.2 ⟨this.1,.inr ⟨aa,Rs.2 this.2.2.2⟩⟩
   intro b;rw[yr,fV];have r:=b;unfold g1 ui at b;simp only[eY] at b;obtain⟨d,_,rfl⟩:=b;obtain⟨u,m|⟨m,x⟩⟩:=u9.1 r
   ·omega
   grind [Rs]
  rw[bZ];refine⟨λ_=>?_,λz=>by grind⟩;simp only[KF c.Fq c.rows c.uY (aa:l.length<=4294967296) e,aC,bX,ae.xv];refine⟨by grind,by grind,?_⟩;refine(RG i aa c e (ajY a)).mono ?_;grind [ais,iO,bu]
 simp_all [bZ,bu]
end
def SS (c:d.Pairwise (· < ·)) (e:∀g∈d,0<=g):∀a,(b:a<d.length)->(a:Z)<=d[a]:=by
 intro a
 induction a with
 |zero=>intro b;exact e _ (cR b)
 |succ a f=>
  intro b;have h:=f aa;have i:=Az.1 c a b;omega
def qp.length {a:ahZ} {c:X} (b:qp a c):a.length<=c:=by
 rcases n0 a.length with d|d
 ·omega
 have g:=SS b.1 (λf e=>(b.2 f e).1) (a.length-1) aa;have h:=(b.2 _ (cR (aa:a.length-1<a.length))).2;omega
def fk.rows (b:fk l):∀a∈l,a.length<=l.length:=by intro a c;obtain⟨e,d,rfl⟩:=ht.1 c;exact(b.asc e d).length
def fk.hc (b:fk l) (d:l.length<=200):∀a∈l,a.length<4611686018427387904:=λa c=>by have:=b.rows a c;omega
def qQ:iy l=0↔l.length<=200/\fk l:=by
 unfold iy;by_cases a:200<l.length
 ·rw[au a];constructor
  ·intro a;omega
  intro a;omega
 rw[ax a];by_cases b:fk l
 ·rw[au b];exact⟨λ_=>⟨aa,b⟩,λ_=>rfl⟩
 rw[ax b];exact⟨λa=>by omega,λa=>absurd a.2 b⟩
def PA (a:ew) (b:X):Z:=((g1 a b)[1]?).getD (-1)
section
def LO (P:X->Prop):X->X
 |0=>0
 |k+1=>LO P k+(open Classical in if P k then 1 else 0)
section
variable {P Q:X->Prop} {k:X}
end
def FSq (n:X) (f:X->Z):Prop:=∀a,a<n->f a=-1\/((a:Z)<f a/\f a<n)
def R4 (n:X) (f:X->Z) (a b:X):Prop:=a<n/\f a=(b:Z)
def Sub (n:X) (f:X->Z) (a b:X):Prop:=Bu (R4 n f) a b
section
variable {n:X} {f:X->Z} (A:FSq n f)
include A
def jw (n:X) (f:X->Z) (b:X):X:=LO (λa=>Sub n f a b) n
def RD (n:X) (f:X->Z):Prop:=∀a,a<n->∀b,Sub n f b a->a<b+jw n f a
end
end
section
section
variable {B:ew} (C:fk B) (A:B.length<=200)
include C A
end
def XN (b:ahZ) (n a:X):Z:=(b[a+1]?).getD n
section
variable {n:X} {f:X->Z} (D:FSq n f) (A:n<=200)
include D A
end
end
section
theorem TF (A:ew) (a:X):(g1 A a).length<=A.length:=TD A a A.length
section
variable {A:ew} (B:fk A) (C:A.length<=200)
include B C
end
end
section
section
variable {A:ew} (B:fk A) (C:A.length<=200)
include B C
theorem ab7:zB ((A,()),())=Y (aB A.length (g1 A),0,()):=ab6 B (B.hc C) C
end
end
section
structure KI (n:X) (f:X->Z) (JR:ahZ) (m:X) (s e:X->X):Prop where
 len:JR.length=m
 st:JR=aB m λk=>(s k:Z)
 aeY:0<n->0<m/\s 0=0
 aeX:n=0->m=0
 ok:∀k,k<m->s k<e k/\e k<=n/\e k<=s k+jw n f (e k-1)
 aP:∀k,k<m->XN JR n k=(e k:Z)
 aeN:∀k,k+1<m->e k=s (k+1)
 el:∀k,k+1=m->e k=n
section
variable {A:ew} (B:fk A) (C:A.length<=200)
include B C
end
end
section
def hf (s:X->X) (a:X):X->Z
 |0=>-1
 |k+1=>if s k<=a then(k:Z) else hf s a k
abbrev dd:=Z×dT
section
variable {n:X} {f:X->Z} {B:ahZ} {m:X} {s e:X->X} (C:KI n f B m s e)
include C
end
section
variable {A:ew} (D:fk A) (F:A.length<=200)
include D F
end
end
def RX:∀a:X,a<201->Cy (1,(a:Z),())=Y (0,(a:Z),()):=by unfold Cy;decide+kernel
def R7 (c:Z) (t:0<a) (u:a<=200):CM ([c],(a:Z),())=Y (bJ a c,()):=by
 unfold CM;have aq:bC.wrap (a:Z)=(a:Z):=(by rw[Rv];omega);have m:bC.wrap ((1:X):Z)=1:=(by rw[Rv];rfl);have r:¬((a:Z)<0):=aa;have p:¬((a:Z)>9223372036854775807):=aa;simp only[cQ,ax r,aC,GP,aq,m,RX a aa,wB,(aa:¬((0:Z)>0)),if_false,aI p,bP,A7 (aa:a<9223372036854775808),h9 (aa:a<=4294967296),qC,pB,Nat.sub_zero];rw[<-bQ];refine bE (P:=λl=>l.1=bJ a c) ?_ (by rintro⟨l,⟨⟩⟩ g;simp only at g;subst g;exact bu.2 bn);have s:∀b:X,b<=a->bJ b c++bJ (a-b) 0=aB a (λd=>if d<b then c else 0):=λb i=>(by rw[jb,jb,zO];have:b+(a-b)=a:=aa;rw[this]);refine aik (λf=>∃b:X,f.1=(b:Z)/\0<b/\b<=a/\f.2.1=aB a (λd=>if d<b then c else 0)) (λf=>a-f.1.toNat) ⟨1,?_,aa,aa,?_⟩ ?_
 ·show((min 1 a:X):Z)=1;rw[hG aa];rfl
 ·show jk (bJ a 0) [c] 0 a=_;unfold jk;rw[hG (show[c].length<=a-0 by simp;omega),List.take_zero,fG (show[c].length<=a-0 by simp;omega),iu,List.drop_replicate,jb];show[c]++aB (a-1) (λ_=>0)=_;have:[c]=aB 1 (λ_=>c):=rfl;rw[this,zO];have:1+(a-1)=a:=aa;rw[this]
 rintro⟨f,w,⟨⟩⟩ ⟨b,i,v,q,k⟩;simp only at i k;subst i k;simp only[cY];by_cases g:b<a
 ·simp(disch:=omega) only[au,vc,p4,Jj,aC,i9,lV,DK,cY];refine bu.2 ⟨⟨b+min b (a-b),Rw aa,aa,aa,?_⟩,?_⟩
  ·show jk (aB a λd=>if d<b then c else 0) (aB b λd=>if d<b then c else 0) b a=_;unfold jk;have n:(aB b λd=>if d<b then c else 0)=aB b λ_=>c:=c9 λd h=>(by rw[au h]);have o:(aB b λ(_:X)=>c).take (a-b)=aB (min b (a-b)) λ_=>c:=by
    rcases Nat.le_total (a-b) b with e|e
    ·rw[DK _ _ _ e,Nat.min_eq_right e]
    rw[fG (by rw[cY];exact e),hG e]
   rw[DK _ _ _ q,cY,n,o,US,zO,zO];have:b+(min b (a-b)+(a-(b+min b (a-b))))=a:=aa;rw[this];refine c9 λd h=>?_;by_cases e:d<b
   ·rw[au e,au aa]
   rw[ax e];by_cases j:d-b<min b (a-b)
   ·rw[au j,au aa]
   rw[ax j,ax aa,ax aa]
  show a-(bK.wrap ((b:Z)+((min b (a-b):X):Z))).toNat<a-(b:Z).toNat;rw[Rw aa];omega
 simp(disch:=omega) only[ax];refine bu.2 ?_;show _=_;rw[jb];exact c9 λd h=>by rw[au aa]
def be (a:bm dd):X->X
 |0=>0
 |k+1=>((a[k]?).map λ(b:dd)=>b.2.1.toNat).getD 0
def nS (d:X) (c:bm dd) (b:X):Prop:=∃a:dd,c[b]?=Y a/\a.1=(be c b:Z)/\(be c b:Z)<a.2.1/\a.2.1<=(d:Z)
def lR (c:X) (a:bm dd):Prop:=(∀b,b<a.length->nS c a b)/\be a a.length=c
theorem Tm {b:bm dd} (c:a<b.length) (d:0<=b[a].2.1):(be b (a+1):Z)=b[a].2.1:=by grind [bS,be]
theorem nS.at {c:bm dd} (i:a<c.length) (d:nS b c a):c[a].1=(be c a:Z)/\c[a].2.1=(be c (a+1):Z)/\be c a<be c (a+1)/\be c (a+1)<=b:=by obtain⟨j,e,f,g,h⟩:=d;grind [Tm,ajd,bS]
theorem Lx {d:bm dd} {m:X} (f:∀e,e<m->e<d.length/\nS a d e):∀c b,c<=b->b<=m->be d c<=be d b:=by
 intro c b l
 induction b with
 |zero=>grind
 |succ b j=>
  intro n;rcases cO c (b+1) with g|g
  ·have k:=j aa aa;obtain⟨h,i⟩:=f b aa;have:=i.at h;omega
  grind
theorem wz {c:bm dd} {m:X} (g:∀a,a<m->a<c.length/\nS f c a) (n:a<m) (i:be c a<=b) (j:b<be c (a+1)):∀d,a<d->d<=m->hf (be c) b d=(a:Z):=by
 intro d
 induction d with
 |zero=>omega
 |succ e o=>
  intro k l;rcases cO a e with h|h
  ·have:=Lx g (a+1) e aa aa;grind [jf.hf]
  obtain rfl:e=a:=aa;simp_all [au,jf.hf]
theorem wy {c:bm dd} (f:lR b c) (g:a<b):∃d,d<c.length/\be c d<=a/\a<be c (d+1):=by
 have h:∀e,e<=c.length->a<be c e->∃d,d<e/\be c d<=a/\a<be c (d+1):=by
  intro e
  induction e with
  |zero=>intro _ f;exact absurd f (akZ _)
  |succ e k=>
   grind
 obtain⟨d,i,j⟩:=h c.length (bc _) (by rw[f.2];exact g);grind
theorem TH (b:bm dd) (D:a<=200) (C:b.length<4611686018427387904):ae (Du (b,(a:Z),())) (λf=>(f.2.1=bp↔lR a b)/\(lR a b->f.1=aB a (λg=>hf (be b) g b.length))):=by
 classical
 unfold Du;refine bE (P:=λv=>match v with|.inl f=>(∀c,c<b.length->nS a b c)/\f.1=aB (be b b.length) (λg=>hf (be b) g b.length)|.inr f=>¬lR a b/\f=([],bq,())) ?_ ?_
 ·refine ae.for b.length (λc w=>(∀d,d<c->d<b.length->nS a b d)/\w.1=aB (be b c) (λg=>hf (be b) g c)) (i0:=0) rfl ⟨λd e=>by omega,bn⟩ (c8 _) ?_ ?_
  ·rintro c ⟨u,⟨⟩⟩ _ k ⟨p,i⟩;simp only at i;subst i;have q:∀d,d<c->d<b.length/\nS a b d:=λd o=>⟨aa,p d o aa⟩;have B:be b c<=a:=by
    cases c with
    |zero=>exact c8 _
    |succ c=>exact((q c aa).2.at aa).2.2.2
   have s:=gN (ba k);simp(disch:=omega) only[cQ,au,s,aC,cY,fX];have A:¬(b[c].1=(be b c:Z)/\(be b c:Z)<b[c].2.1/\b[c].2.1<=(a:Z))->¬lR a b:=λe l=>(by obtain⟨E,j,n⟩:=l.1 c k;grind);by_cases h:b[c].1=(be b c:Z)
   ·by_cases x:b[c].2.1<=b[c].1
    ·simp only[h,aiu,gR,show(bq==bq)=bp from rfl,bG,aK (aa:b[c].2.1<=(be b c:Z)),show(bp==bq)=bq from rfl,bP,aC];grind [bu]
    by_cases m:b[c].2.1>(a:Z)
    ·simp only[h,aiu,gR,show(bq==bq)=bp from rfl,bG,aI (aa:¬b[c].2.1<=(be b c:Z)),aK m,aC];grind [bu]
    have r:nS a b c:=⟨b[c],ba k,h,aa,aa⟩;obtain⟨j,n,y,z⟩:=r.at k;have t:bK.wrap (b[c].2.1-b[c].1)=((be b (c+1)-be b c:X):Z):=(by rw[j,n,aeq aa aa]);simp only[h,aiu,gR,show(bq==bq)=bp from rfl,bG,aI (aa:¬b[c].2.1<=(be b c:Z)),aI m,bP,aC];rw[<-h];rw[t,R7 _ aa aa];simp(disch:=omega) only[aC,qC,da,iN,cY];refine bu.2 ⟨bn,λd o e=>?_,?_⟩
    ·grind
    show aB (be b c) (λg=>hf (be b) g c)++bJ (be b (c+1)-be b c) (c:Z)=_;grind [c9,jb,zO,jf.hf,be]
   simp only[aI h,mh,show(bp==bq)=bq from rfl,bP,bG,aC];grind [bu]
  simp_all [cQ,ax,bu]
 rintro(⟨u,⟨⟩⟩|f) e
 ·obtain⟨j,i⟩:=e;simp only at i;subst i;simp only[cY];refine bu.2 ⟨?_,λl=>?_⟩
  ·show(((be b b.length:X):Z)==(a:Z))=bp↔_;rw[beq_iff_eq];exact⟨λe=>⟨j,aa⟩,λe=>by have:=e.2;omega⟩
  show aB (be b b.length) _=_;rw[l.2]
 grind [bu]
def qF (c:X) (a:dd) (b:X):Prop:=∀d:b<a.2.2.1.length,(b<(a.2.1-a.1).toNat->a.2.2.1[b]=a.1+(b:Z))/\((a.2.1-a.1).toNat<=b->a.2.1<=a.2.2.1[b]/\a.2.2.1[b]<(c:Z)/\a.2.2.1[b-1]<a.2.2.1[b])
def jz (c:X) (a:dd):Prop:=(a.2.1-a.1).toNat<=a.2.2.1.length/\∀b,0<=b->b<a.2.2.1.length->qF c a b
theorem acQ {n:X} {x:dd} (o:0<=x.1) (p:x.1<x.2.1) (q:x.2.1<=(n:Z)) (s:n<=200) (r:x.2.2.1.length<4611686018427387904):Dw (x,(n:Z),())=Y ((open Classical in decide (jz n x)),()):=by
 classical
 obtain⟨b,j⟩:∃b:X,x.2.1-x.1=(b:Z):=⟨(x.2.1-x.1).toNat,aa⟩;have t:(x.2.1-x.1).toNat=b:=aa;unfold Dw;simp only[j,A7 (aa:b<9223372036854775808),cQ];by_cases l:b<=x.2.2.1.length
 ·rw[ax aa];refine ai (sY (τ:=bt) x.2.2.1.length (qF n x) () (.inl ()) (.inr (bq,())) 0 bn (c8 _) ?_ ?_) ?_
  ·intro a _ i _;have h:=gN (ba i);rw[au aa,h];simp only[aC,yP,fX];by_cases m:a<b
   ·rw[au aa,cr aa aa];simp only[aC];by_cases c:x.2.2.1[a]=x.1+(a:Z)
    ·have:qF n x a:=λ_=>⟨λ_=>c,λg=>by omega⟩;rw[au this,aK c];simp(disch:=omega) only[gR,bP,ax,aC,iN]
    simp_all [ax,aI,qF]
   rw[ax aa];simp only[aC,bP];rw[au aa];simp only[wB];have k:ao x.2.2.1 (bK.wrap ((a:Z)-1))=Y (x.2.2.1[a-1]'(by omega)):=by grind [gN,bS,vF]
   by_cases c:x.2.2.1[a]<x.2.1
   ·grind [qF]
   rw[ax c];by_cases e:x.2.2.1[a]>=(n:Z)
   ·grind [qF]
   rw[ax e,k];simp only[aC];by_cases f:x.2.2.1[a]<=x.2.2.1[a-1]
   ·grind [qF]
   have:qF n x a:=λ_=>⟨λg=>by omega,λ_=>⟨aa,aa,aa⟩⟩;rw[au this,ax f];grind [iN]
  ·grind
  by_cases d:∀a,0<=a->a<x.2.2.1.length->qF n x a
  ·rw[au d,aK (show jz n x from⟨aa,d⟩)]
  simp_all [ax,aI,jz]
 simp_all [au,aI,jz]
def gP (a:bm dd) (b:Z):ahZ:=((a[b.toNat]?).map λ(c:dd)=>c.2.2.1).getD []
def iX (c:bm dd) (a:dd):Prop:=
 (a.2.2.1.length=(a.2.1-a.1).toNat/\a.2.2.2.1=-1)\/
 (∃d:(a.2.1-a.1).toNat<a.2.2.1.length,a.2.2.2.1=hf (be c) (a.2.2.1[(a.2.1-a.1).toNat]).toNat c.length/\∀b,(a.2.1-a.1).toNat<=b->(e:b<a.2.2.1.length)->a.2.2.1[b]∈gP c a.2.2.2.1)
theorem jz.asc {b:dd} (f:0<=b.1) (g:b.1<b.2.1) (c:jz a b):b.2.2.1.Pairwise (· < ·):=by rw[Az];intro e d;have aw:=c.2 e (c8 _) aa aa;have h:=c.2 (e+1) (c8 _) d d;grind
theorem tj {b:bm dd} (c:a<b.length):gP b (a:Z)=b[a].2.2.1:=by grind [aiA,bS,gP]
theorem Ku {v:Z} (b:d.length<4611686018427387904) (c:d.Pairwise (· < ·)):∃a,uy (d,v,())=Y (a,br (v∈d),()):=by obtain⟨⟨a,e,⟨⟩⟩,f,g⟩:=Kv d v b c;grind
theorem WG {c:bm dd} (V:b<=200) (n:lR b c) (w:∀L∈c,L.2.2.1.length<4611686018427387904) (u:∀a,(r:a<c.length)->jz b c[a]) (i:a<c.length):Dv (c,aB b (λz=>hf (be c) z c.length),c[a],())=Y ((open Classical in decide (iX c c[a])),()):=by
 classical
 have t:=(n.1 a i).at i;have p:=u a i;have D:=w _ (cR i);generalize am:c[a]=d at t p D;obtain⟨N,O,P,Q⟩:=t;obtain⟨e,F⟩:∃e:X,d.2.1-d.1=(e:Z):=⟨(d.2.1-d.1).toNat,aa⟩;have x:(d.2.1-d.1).toNat=e:=aa;have G:=p.1;rw[x] at G;unfold Dv;simp(disch:=omega) only[F,A7 (aa:e<9223372036854775808),vc,aC,p4,i9,hO,na,cQ,gD,fX];by_cases R:d.2.2.1.length=e
 ·rw[au aa];have:br (d.2.2.2.1=-1)=br (iX c d):=by
   simp_all [cx,iX]
  grind
 have o:e<d.2.2.1.length:=aa;have ad:=(p.2 e (c8 _) o o).2 aa;obtain⟨k,y⟩:∃k:X,d.2.2.1[e]=(k:Z):=⟨(d.2.2.1[e]).toNat,aa⟩;have K:k<b:=aa;have A:ao (d.2.2.1.drop e) 0=Y (k:Z):=(by grind [gN]);rw[ax aa];simp(disch:=omega) only[A,aC,rp];obtain⟨g,h,H,I⟩:=wy n K;have q:hf (be c) k c.length=(g:Z):=wz (m:=c.length) (λa i=>⟨i,n.1 a i⟩) h H I c.length h (bc _);rw[q];have T:iX c d↔d.2.2.2.1=(g:Z)/\∀f,0<=f->f<d.2.2.1.length-e->d.2.2.1.getD (e+f) 0∈c[g].2.2.1:=by
  unfold iX;rw[x];constructor
  ·rintro(r|⟨r,j,l⟩)
   ·omega
   rw[y,fC,q] at j;grind [bS,tj]
  rintro⟨j,l⟩;refine .inr ⟨o,by rw[y,fC,q,j],λf s S=>?_⟩;rw[j,tj h];have:=l (f-e) (c8 _) aa;grind
 by_cases s:d.2.2.2.1=(g:Z)
 ·simp only[s,aiu,gR,bP];have B:c[g].2.2.1.Pairwise (· < ·):=by
   have:=(n.1 g h).at h;exact(u g h).asc aa aa
  have J:=w _ (cR h);refine ai (sY (τ:=bt) (d.2.2.1.length-e) (λf=>d.2.2.1.getD (e+f) 0∈c[g].2.2.1) () (.inl ()) (.inr (bq,())) 0 bn (c8 _) ?_ ?_) ?_
  ·intro f _ U _;have j:ao (d.2.2.1.drop e) (f:Z)=Y (d.2.2.1.getD (e+f) 0):=by
    grind [bS,gN]
   have l:ao c (g:Z)=Y c[g]:=gN (ba h);obtain⟨M,C⟩:=Ku (v:=d.2.2.1.getD (e+f) 0) J B;rw[au aa,j,l];simp only[aC,C];by_cases E:d.2.2.1.getD (e+f) 0∈c[g].2.2.1
   ·simp(disch:=omega) only[E,aiu,gR,bP,cf,iN]
   grind
  ·grind
  grind
 grind
section
theorem TN {l:bm dd} (C:a<=200) (D:l.length<4611686018427387904) (e:lR a l) (F:∀i∈l,i.2.2.1.length<4611686018427387904):CG (l,(Y (a:Z),()),())=Y ((open Classical in decide (¬∀b,(d:b<l.length)->jz a l[b])),()):=by
 classical
 rw[<-bQ];unfold CG;refine bE (P:=λh=>0<=h.1↔¬∀b,(d:b<l.length)->jz a l[b]) ?_ ?_
 ·unfold GU;refine bE (Io l.length (λb=>∀d:b<l.length,jz a l[b]) ?_ ?_) ?_
  ·intro b c;have f:=gN (ba c);obtain⟨j,k,m,o⟩:=(e.1 b c).at c;have g:=acQ (n:=a) (x:=l[b]) aa aa aa C (F _ (cR c));simp(disch:=omega) only[cQ,au,f,aC,G3,g];by_cases d:jz a l[b]
   ·simp(disch:=omega) only[d,aiu,gR,bP,c,ak0,cf,iN]
   grind
  ·grind
  grind [bu]
 grind [bu,ge_iff_le]
theorem TO {l:bm dd} (C:a<=200) (D:l.length<4611686018427387904) (e:lR a l) (F:∀k∈l,k.2.2.1.length<4611686018427387904) (f:∀b,(c:b<l.length)->jz a l[b]):CH (l,(Y l,Y (aB a (λj=>hf (be l) j l.length)),()),())=Y ((open Classical in decide (¬∀b,(c:b<l.length)->iX l l[b])),()):=by
 classical
 rw[<-bQ];unfold CH;refine bE (P:=λi=>0<=i.1↔¬∀b,(c:b<l.length)->iX l l[b]) ?_ ?_
 ·unfold GV;refine bE (Io l.length (λb=>∀c:b<l.length,iX l l[b]) ?_ ?_) ?_
  ·intro b d;have g:=gN (ba d);have h:=WG C e F f d;simp(disch:=omega) only[cQ,au,g,aC,G4,h];by_cases c:iX l l[b]
   ·simp(disch:=omega) only[c,aiu,gR,bP,d,ak0,cf,iN]
   grind
  ·grind
  grind [bu]
 grind [bu,ge_iff_le]
def RF (A:ew) (l:bm dd) (b a:X):Prop:=b<a->(a:Z)∈gP l (hf (be l) b l.length)
def hW (A:ew) (l:bm dd):Prop:=lR A.length l/\(∀a,(d:a<l.length)->jz A.length l[a])/\(∀a,(d:a<l.length)->iX l l[a])/\∀c b,jS A c b->RF A l c b
def xb (A:ew) (l:bm dd):Z:=if iy A≠0 then iy A else(open Classical in if hW A l then 0 else 211)
section
variable {A:ew} (B:fk A) (C:A.length<=200) {l:bm dd} (D:l.length<4611686018427387904) (F:∀y∈l,y.2.2.1.length<4611686018427387904)
include B C D F
theorem U0:uJ ((A,()),l,())=Y ((open Classical in if hW A l then 0 else 211),()):=by
 classical
 have I:=B.hc C;unfold uJ;simp only[FH A I,qQ.2 ⟨C,B⟩,aC,fX,aiu,gR,bP];obtain⟨⟨ap,T,⟨⟩⟩,z,t,u⟩:=TH l C D;simp only at t u;simp only[z,aC,wB];by_cases f:lR A.length l
 ·have w:=t.2 f;have O:=u f;subst w O;simp only[gR,show(bq==bq)=bp from rfl,bG,TN C D f F,aC];by_cases j:∀b,(d:b<l.length)->jz A.length l[b]
  ·simp only[j,al0,ajK,decide_false,bP,aC,TO C D f F j];by_cases q:∀b,(d:b<l.length)->iX l l[b]
   ·simp only[q,al0,ajK,decide_false,bP];have V:hW A l↔∀a,0<=a->a<A.length->∀d:a<A.length,∀b,0<=b->b<A[a].length->∀c:b<A[a].length,A[a][b]<=(a:Z)->(a:Z)∈gP l (hf (be l) A[a][b].toNat l.length):=by
     constructor
     ·rintro⟨_,_,_,E⟩ a _ _ d b _ _ c M;have R:=(B.asc a d).2 _ (cR c);obtain⟨e,n⟩:∃e:X,A[a][b]=(e:Z):=⟨A[a][b].toNat,aa⟩;have o:jS A a e:=⟨d,n▸cR c⟩;have am:=o.ne B;rw[n,fC];exact E e a (akY B _ _ o) aa
     intro d;refine⟨f,j,q,λe a o ad=>?_⟩;have S:=akY B _ _ o;obtain⟨b,c,s⟩:=ht.1 S.2;grind
    rw[show(if hW A l then(0:Z) else 211)=if(∀a,0<=a->a<A.length->∀d:a<A.length,∀b,0<=b->b<A[a].length->∀c:b<A[a].length,A[a][b]<=(a:Z)->(a:Z)∈gP l (hf (be l) A[a][b].toNat l.length)) then 0 else 211 from by grind];refine ai (sY (τ:=ahZ×bt) A.length (λa=>∀d:a<A.length,∀b,0<=b->b<A[a].length->∀c:b<A[a].length,A[a][b]<=(a:Z)->(a:Z)∈gP l (hf (be l) A[a][b].toNat l.length)) (aB A.length (λi=>hf (be l) i l.length),()) (.inl ()) (.inr (211,())) 0 bn (c8 _) ?_ ?_) ?_
    ·intro a _ k _;have J:=gN (ba k);have an:=B.rows _ (cR k);simp(disch:=omega) only[cQ,au,J,aC];refine ai (sY (τ:=ahZ×bt) A[a].length (λb=>∀c:b<A[a].length,A[a][b]<=(a:Z)->(a:Z)∈gP l (hf (be l) A[a][b].toNat l.length)) (aB A.length (λi=>hf (be l) i l.length),()) (.inl (aB A.length (λi=>hf (be l) i l.length),())) (.inr (.inr (.inr (211,())))) 0 bn (c8 _) ?_ ?_) ?_
     ·intro b _ c _;have K:=gN (ba c);have R:=(B.asc a k).2 _ (cR c);obtain⟨e,n⟩:∃e:X,A[a][b]=(e:Z):=⟨A[a][b].toNat,aa⟩;simp(disch:=omega) only[au,K,aC,n,c,ak0,fC];by_cases r:(e:Z)>(a:Z)
      ·have:(e:Z)<=(a:Z)->(a:Z)∈gP l (hf (be l) e l.length):=λd=>aa;rw[au r,au this];grind [iN]
      obtain⟨h,g,P,Q⟩:=wy f (aa:e<A.length);have L:hf (be l) e l.length=(h:Z):=wz (m:=l.length) (λb c=>⟨c,f.1 b c⟩) g P Q l.length g (bc _);have y:ao l (h:Z)=Y l[h]:=gN (ba g);have G:l[h].2.2.1.Pairwise (· < ·):=(by have:=(f.1 h g).at g;exact(j h g).asc aa aa);obtain⟨U,H⟩:=Ku (v:=(a:Z)) (F _ (cR g)) G;rw[ax r];simp(disch:=omega) only[rp,aC,L,y,H,tj g];have M:(e:Z)<=(a:Z):=aa;by_cases N:(a:Z)∈l[h].2.2.1
      ·simp(disch:=omega) only[N,aiu,gR,bP,aC,al0,cf,iN]
      grind
     ·grind
     have s:(∀d:a<A.length,∀b,0<=b->b<A[a].length->∀c:b<A[a].length,A[a][b]<=(a:Z)->(a:Z)∈gP l (hf (be l) A[a][b].toNat l.length))↔(∀b,0<=b->b<A[a].length->∀c:b<A[a].length,A[a][b]<=(a:Z)->(a:Z)∈gP l (hf (be l) A[a][b].toNat l.length)):=⟨λp=>p k,λp _=>p⟩;by_cases x:∀b,0<=b->b<A[a].length->∀c:b<A[a].length,A[a][b]<=(a:Z)->(a:Z)∈gP l (hf (be l) A[a][b].toNat l.length)
     ·simp(disch:=omega) only[au x,au (s.2 x),iN]
     grind
    ·grind
    grind
   have:¬hW A l:=λd=>q d.2.2.1;grind
  have:¬hW A l:=λd=>j d.2.1;grind
 have w:T=bq:=(by grind);have:¬hW A l:=λd=>f d.1;grind
end
theorem acP {n:X} {x:dd} (l:0<=x.1) (m:x.1<x.2.1) (w:x.2.1<=(n:Z)):jz n x↔x.2.2.1.Pairwise (· < ·)/\∃(b:(x.2.1-x.1).toNat<=x.2.2.1.length),x.2.2.1[0]'(by omega)=x.1/\x.2.2.1[(x.2.1-x.1).toNat-1]'(by omega)=x.2.1-1/\x.2.2.1[x.2.2.1.length-1]'(by omega)<(n:Z):=by
 obtain⟨f,u⟩:∃f:X,x.2.1-x.1=(f:Z):=⟨(x.2.1-x.1).toNat,aa⟩;have v:(x.2.1-x.1).toNat=f:=aa;constructor
 ·intro b;refine⟨b.asc l m,b.1,?_,?_,?_⟩
  ·have:=(b.2 0 (c8 _) (by have:=b.1;omega) (by have:=b.1;omega)).1 aa;omega
  ·have:=(b.2 ((x.2.1-x.1).toNat-1) (c8 _) (by have:=b.1;omega) (by have:=b.1;omega)).1 aa;omega
  have D:=b.1;have t:=b.2 (x.2.2.1.length-1) (c8 _) aa aa;omega
 rintro⟨p,D,q,r,s⟩;have h:∀a e,(d:a<x.2.2.1.length)->(g:e<x.2.2.1.length)->a<e->x.2.2.1[a]<x.2.2.1[e]:=λa e d g o=>(h4.1 p) a e d g o;have i:∀c a,(d:a+c<x.2.2.1.length)->x.2.2.1[a]+(c:Z)<=x.2.2.1[a+c]:=by
  intro c
  induction c with
  |zero=>grind
  |succ c y=>
   grind
 refine⟨D,λa _ _ d=>⟨λj=>?_,λj=>⟨?_,?_,?_⟩⟩⟩
 ·have aw:=i a 0 aa;have A:=i ((x.2.1-x.1).toNat-1-a) a aa;grind
 ·have z:=h ((x.2.1-x.1).toNat-1) a aa d aa;omega
 ·rcases cO a (x.2.2.1.length-1) with k|k
  ·grind
  grind
 exact h (a-1) a aa d aa
section
variable {A:ew} (B:fk A) (C:A.length<=200) {l:bm dd} (D:l.length<4611686018427387904) (F:∀y∈l,y.2.2.1.length<4611686018427387904)
theorem M9 (g:lR f l) (D:l.length<4611686018427387904) (s:a<l.length) (q:be l a<=b) (r:b<be l (a+1)):zC (l,(b:Z),())=Y ((a:Z),()):=by
 unfold zC;rw[<-bQ];refine bE (P:=λj=>j=.inr ((a:Z),())) ?_ (by grind [bu]);refine ae.for (a+1) (λc _=>c<=a) (i0:=0) rfl (c8 _) (c8 _) ?_ ?_
 ·rintro c ⟨⟩ _ d _;have e:c<l.length:=aa;have i:=gN (ba e);obtain⟨k,n,o,p⟩:=(g.1 c e).at e;simp(disch:=omega) only[cQ,au,i,aC,yP];rcases cO c a with h|h
  ·have:=Lx (m:=l.length) (λc d=>⟨d,g.1 c d⟩) (c+1) a aa aa;rw[au aa,aI aa];simp only[aC,bP];grind [bu,iN]
  obtain rfl:c=a:=aa;rw[au aa,aK aa];grind [bu]
 omega
include B C D F
theorem ab8:wX ((A,()),l,())=Y ((open Classical in if hW A l then 0 else 211),()):=by
 classical
 have O:=B.hc C;unfold wX;simp only[AN A O,qQ.2 ⟨C,B⟩,aC,fX,aiu,gR,bP];rw[<-bQ];refine bE (P:=λS=>match S with|.inl p=>(∀a,a<l.length->nS A.length l a)/\p.1=(be l l.length:Z)|.inr p=>¬lR A.length l/\p=(211,())) ?_ ?_
 ·refine ae.count (λT=>T.2.1) l.length (λa T=>(∀e,e<a->e<l.length->nS A.length l e)/\T.1=(be l a:Z)) (i0:=0) rfl ⟨λe c=>by omega,bn⟩ (c8 _) ?_ ?_
  ·rintro a ⟨V,d7,⟨⟩⟩ _ d q ⟨M,j⟩;simp only at q j;subst q j;have u:=gN (ba d);have fl:¬(l[a].1=(be l a:Z)/\(be l a:Z)<l[a].2.1/\l[a].2.1<=(A.length:Z))->¬lR A.length l:=λc O=>by
    obtain⟨em,r,H⟩:=O.1 a d;grind
   simp(disch:=omega) only[cQ,au,u,aC];by_cases k:l[a].1=(be l a:Z)
   ·simp only[aK k,gR,show(bq==bq)=bp from rfl,bG,wB];by_cases J:l[a].2.1<=(be l a:Z)
    ·rw[au J];grind [bu]
    rw[ax J];by_cases K:l[a].2.1>(A.length:Z)
    ·rw[au K];grind [bu]
    rw[ax K];have dl:nS A.length l a:=⟨l[a],ba d,k,aa,aa⟩;obtain⟨r,H,cv,c1⟩:=dl.at d;grind [cl,bu,iN]
   simp only[aI k,mh,show(bp==bq)=bq from rfl,bP,aC];grind [bu]
  rintro⟨V,d7,⟨⟩⟩ q ⟨M,j⟩;simp only at q j;subst q j;simp(disch:=omega) only[cQ,ax];grind [bu]
 rintro(⟨V,⟨⟩⟩|p) c
 rotate_left
 ·obtain⟨r,rfl⟩:=c;exact bu.2 (by rw[ax (λc=>r c.1)])
 obtain⟨M,j⟩:=c;simp only at j;subst j;simp only;by_cases N:be l l.length=A.length
 rotate_left
 ·have:¬((be l l.length:Z)=(A.length:Z)):=aa;simp only[aI this,mh,bG];exact bu.2 (by rw[ax (λc=>N c.1.2)])
 have o:lR A.length l:=⟨M,N⟩;simp only[N,aiu,gR,bP];refine bE (P:=λS=>match S with|.inl _=>(∀a,(c:a<l.length)->jz A.length l[a])/\(∀a,(c:a<l.length)->iX l l[a])|.inr p=>¬((∀a,(c:a<l.length)->jz A.length l[a])/\(∀a,(c:a<l.length)->iX l l[a]))/\p=(211,())) ?_ ?_
 ·refine ae.of_eq (sY (τ:=bt) l.length (λa=>∀c:a<l.length,jz A.length l[a]/\iX l l[a]) () (.inl ()) (.inr (211,())) 0 bn (c8 _) ?_ ?_) ?_
  ·intro a _ d _;have u:=gN (ba d);obtain⟨k,J,K,eq⟩:=(o.1 a d).at d;have d1:=F _ (cR d);have av:=acP (n:=A.length) (x:=l[a]) aa aa aa;have d4:(∀c:a<l.length,jz A.length l[a]/\iX l l[a])↔(jz A.length l[a]/\iX l l[a]):=⟨λc=>c d,λc _=>c⟩;simp(disch:=omega) only[cQ,au,u,aC];simp only[d4];obtain⟨f,j⟩:∃f:X,l[a].2.1-l[a].1=(f:Z):=⟨(l[a].2.1-l[a].1).toNat,aa⟩;have an:(l[a].2.1-l[a].1).toNat=f:=aa;have d5:bK.wrap (l[a].2.1-1)=l[a].2.1-1:=cr aa aa;simp(disch:=omega) only[j,A7,Kt _ d1,aC,wB,d5];by_cases a0:l[a].2.2.1.Pairwise (· < ·)
   rotate_left
   ·grind
   rw[aK a0];simp only[gR,show(bq==bq)=bp from rfl,bG];by_cases a3:f<=l[a].2.2.1.length
   rotate_left
   ·grind
   rw[ax aa];have bx:ao l[a].2.2.1 0=Y (l[a].2.2.1[0]'(by omega)):=gN (i:=0) (ba aa)
   have ce:ao l[a].2.2.1 (bK.wrap ((f:Z)-1))=Y (l[a].2.2.1[f-1]'(by omega)):=by grind [gN,bS,vF]
   have ci:ao l[a].2.2.1 (bK.wrap ((l[a].2.2.1.length:Z)-1))=Y (l[a].2.2.1[l[a].2.2.1.length-1]'(by omega)):=by grind [gN,bS,vF]
   simp only[an] at av;simp only[bx,ce,ci,aC];by_cases a4:l[a].2.2.1[0]'(by omega)=l[a].1
   rotate_left
   ·grind
   rw[aK a4];simp only[gR,show(bq==bq)=bp from rfl,bG];by_cases bl:l[a].2.2.1[f-1]'(by omega)=l[a].2.1-1
   rotate_left
   ·grind
   rw[aK bl];simp only[gR,show(bq==bq)=bp from rfl,bG];by_cases d8:l[a].2.2.1[l[a].2.2.1.length-1]'(by omega)>=(A.length:Z)
   ·grind
   have t:jz A.length l[a]:=av.2 ⟨a0,a3,a4,bl,aa⟩;rw[ax d8];simp only[aC];by_cases r:l[a].2.2.1.length=f
   ·rw[ax aa];simp only[aC];by_cases I:l[a].2.2.2.1=-1
    ·have s:iX l l[a]:=.inl ⟨aa,I⟩;simp only[aK I,gR,bP];rw[au ⟨t,s⟩];have:loop (σ:=eo) (ρ:=dA) (λU=>if U.1<(l[a].2.2.1.length:Z) then(ao l (-1)).bind λd9=>(ao l[a].2.2.1 U.1).bind λek=>(sv (d9.2.2.1,ek,())).bind λel=>bif !el.1 then Y (.inr (.inr (.inr (.inr (.inr (211,())))))) else Y (.inl (bK.wrap (U.1+1),())) else Y (.inr (.inl ()))) ((f:Z),())=Y (.inl ()):=by
      rw[xy];exact⟨1,by simp_all [ax,j2]⟩
     grind [iN]
    have s:¬iX l l[a]:=λc=>by
     rcases c with c|⟨c,_⟩
     ·omega
     omega
    grind
   have H:f<l[a].2.2.1.length:=aa;have fz:=(t.2 f (c8 _) H H).2 aa;obtain⟨G,fT⟩:∃G:X,l[a].2.2.1[f]=(G:Z):=⟨(l[a].2.2.1[f]).toNat,aa⟩;have d6:G<A.length:=aa;have co:ao l[a].2.2.1 (f:Z)=Y (G:Z):=(by grind [gN,bS]);obtain⟨h,g,z,E⟩:=wy o d6;have am:hf (be l) G l.length=(h:Z):=wz (m:=l.length) (λa d=>⟨d,o.1 a d⟩) g z E l.length g (bc _);have L:ao l (h:Z)=Y l[h]:=gN (ba g);rw[au aa];simp only[co,aC,M9 o D g z E];have R:=F _ (cR g);by_cases I:l[a].2.2.2.1=(h:Z)
   ·have ex:iX l l[a]↔∀e,f<=e->e<l[a].2.2.1.length->l[a].2.2.1.getD e 0∈l[h].2.2.1:=by
     unfold iX;rw[an];simp_all [fC,tj,ba,r5,aiJ]
    simp only[aK I,gR,bP];refine ai (y:=if iX l l[a] then .inl () else .inr (.inr (.inr (211,())))) ?_ ?_
    ·refine ai (sY (τ:=bt) l[a].2.2.1.length (λe=>l[a].2.2.1.getD e 0∈l[h].2.2.1) () (.inl ()) (.inr (.inr (.inr (.inr (211,()))))) f bn a3 ?_ ?_) ?_
     ·intro e cv c1 _;have cs:ao l[a].2.2.1 (e:Z)=Y (l[a].2.2.1.getD e 0):=by
       grind [bS,gN]
      rw[au aa,L,cs];simp only[aC,Bf _ _ R];by_cases w:l[a].2.2.1.getD e 0∈l[h].2.2.1
      ·simp(disch:=omega) only[w,aiu,gR,bP,cf,iN]
      grind
     ·grind
     grind
    by_cases ap:iX l l[a]
    ·rw[au ap,au ⟨t,ap⟩];grind [iN]
    grind
   have s:¬iX l l[a]:=λc=>by
    rcases c with c|⟨c,aw,_⟩
    ·omega
    grind
   grind
  ·grind
  grind
 rintro(⟨⟩|p) c
 rotate_left
 ·obtain⟨r,rfl⟩:=c;exact bu.2 (by rw[ax (λc=>r ⟨c.2.1,c.2.2.1⟩)])
 obtain⟨t,s⟩:=c;simp only;have fn:hW A l↔∀b,0<=b->b<A.length->∀a,0<=a->a<(A.getD b []).length->(b:Z)<(A.getD b []).getD a 0->(A.getD b []).getD a 0∈gP l (hf (be l) b l.length):=by
  constructor
  ·rintro⟨_,_,_,c2⟩ b _ c a _ d Q;simp only[aiJ,ba c,r5] at d Q|-;simp only[ba d,r5] at Q|-;have fs:=(B.asc b c).2 _ (cR d);obtain⟨e,ad⟩:∃e:X,A[b][a]=(e:Z):=⟨A[b][a].toNat,aa⟩;rw[ad] at Q|-;exact c2 b e ⟨c,ad▸cR d⟩ aa
  intro c;refine⟨o,t,s,λb e d2 fp=>?_⟩;obtain⟨v,w⟩:=d2;obtain⟨a,d,q⟩:=ht.1 w;have:=c b (c8 _) v a (c8 _);grind
 refine ae.of_eq (y:=(if hW A l then(0:Z) else 211,())) ?_ bn;refine ai (sY (τ:=bt) A.length (λb=>∀a,0<=a->a<(A.getD b []).length->(b:Z)<(A.getD b []).getD a 0->(A.getD b []).getD a 0∈gP l (hf (be l) b l.length)) () (.inl ()) (.inr (211,())) 0 bn (c8 _) ?_ ?_) ?_
 ·intro b _ v _;have ds:=gN (ba v);have ft:=B.rows _ (cR v);have d0:A.getD b []=A[b]:=(by grind);simp(disch:=omega) only[cQ,au,d0];obtain⟨h,g,z,E⟩:=wy o v;have am:hf (be l) b l.length=(h:Z):=wz (m:=l.length) (λa d=>⟨d,o.1 a d⟩) g z E l.length g (bc _);have L:ao l (h:Z)=Y l[h]:=gN (ba g);have R:=F _ (cR g);refine ai (sY (τ:=bt) A[b].length (λa=>(b:Z)<A[b].getD a 0->A[b].getD a 0∈gP l (hf (be l) b l.length)) () (.inl ()) (.inr (.inr (.inr (211,())))) 0 bn (c8 _) ?_ ?_) ?_
  ·intro a _ d _;have u:ao A[b] (a:Z)=Y (A[b].getD a 0):=by
    grind [bS,gN]
   simp(disch:=omega) only[ds,aC,au,u,yP];by_cases k:A[b].getD a 0>(b:Z)
   ·have bs:(b:Z)<A[b].getD a 0:=k;rw[au k];simp only[M9 o D g z E,aC,L,Bf _ _ R,am,tj g,bs,ak0];by_cases w:A[b].getD a 0∈l[h].2.2.1
    ·simp(disch:=omega) only[w,aiu,gR,bP,aC,cf,iN]
    grind
   have:(b:Z)<A[b].getD a 0->A[b].getD a 0∈gP l (hf (be l) b l.length):=λc=>absurd c k;rw[ax k,au this];grind [iN]
  ·grind
  by_cases d3:∀a,0<=a->a<A[b].length->(b:Z)<A[b].getD a 0->A[b].getD a 0∈gP l (hf (be l) b l.length)
  ·simp(disch:=omega) only[au d3,iN]
  grind
 ·grind
 grind
end
theorem RN {A:ew} (c:∀l∈A,l.length<4611686018427387904) {l:bm dd} (D:l.length<4611686018427387904) (F:∀b∈l,b.2.2.1.length<4611686018427387904):uJ ((A,()),l,())=Y (xb A l,()):=by
 unfold xb;by_cases a:iy A=0
 ·obtain⟨C,B⟩:=qQ.1 a;rw[ax aa];grind [U0]
 simp_all [au,FH,aC,fX,aI,mh,bG,uJ]
theorem RO {A:ew} (b:∀l∈A,l.length<4611686018427387904) {l:bm dd} (D:l.length<4611686018427387904) (F:∀c∈l,c.2.2.1.length<4611686018427387904):wX ((A,()),l,())=Y (xb A l,()):=by
 unfold xb;by_cases a:iy A=0
 ·obtain⟨C,B⟩:=qQ.1 a;rw[ax aa];grind [ab8]
 rw[au a];unfold wX;simp only[AN A b,aC,fX,aI a,mh,bG]
end
section
def a5 (a:ahY):ahZ:=a.map λ(b:X)=>(b:Z)
theorem oq (a b:ahY):a5 (a++b)=a5 a++a5 b:=by simp[a5]
theorem fJ (a:ahY):(a5 a).length=a.length:=by simp[a5]
section
variable {n:X} {f:X->Z} (A:FSq n f) (B:n<=200)
include A B
end
end
section
theorem xg {b:bm k} (d:a<b.length) (c:k):b.getD a c=b[a]:=by simp only[aiJ,ba d,r5]
section
variable {A:ew} (B:fk A) (C:A.length<=200)
include B C
end
end
section
theorem LY {A:ew} (B:fk A) (d:c∈g1 A a):∃b:X,c=(b:Z)/\b<A.length/\a<=b:=by have e:=d;unfold g1 ui at d;grind
section
variable {A:ew} (B:fk A) (C:A.length<=200)
include B C
section
variable {D:ahZ} {m:X} {s e:X->X} (F:RD A.length (PA A)) (G:KI A.length (PA A) D m s e)
include F G
end
def vR (a:bm dd) (c b:X):Prop:=b<a.length/\be a b<=c/\c<be a (b+1)
omit B C in
theorem vR.last {c:bm dd} (g:lR f c) (d:vR c b a):hf (be c) b c.length=(a:Z):=
 wz (m:=c.length) (λh e=>⟨e,g.1 h e⟩) d.1 d.2.1 d.2.2 c.length d.1 (bc _)
end
end
def hW.parent {b:bm dd} (r:hW l b) (g:a<b.length):(b[a].2.2.2.1=-1\/∃d:X,b[a].2.2.2.1=(d:Z)/\d<b.length)/\∀c,(e:c<b[a].2.2.1.length)->b[a].2.1<=b[a].2.2.1[c]->∃d:X,b[a].2.2.2.1=(d:Z)/\d<b.length/\b[a].2.2.1[c]∈gP b (d:Z):=by
 obtain⟨k,s,q,_⟩:=r;obtain⟨z,A,B,C⟩:=(k.1 a g).at g;have m:=s a g;rcases q a g with⟨i,f⟩|⟨i,f,p⟩
 ·refine⟨.inl f,λc e v=>?_⟩;have:=(m.2 c (c8 _) e e).1 aa;omega
 have y:=(m.2 _ (c8 _) i i).2 (bc _);obtain⟨h,o⟩:∃h:X,b[a].2.2.1[(b[a].2.1-b[a].1).toNat]=(h:Z):=⟨(b[a].2.2.1[(b[a].2.1-b[a].1).toNat]).toNat,aa⟩;rw[o] at y;obtain⟨d,n,w,x⟩:=wy k (aa:h<l.length);have u:=vR.last k (⟨n,w,x⟩:vR b h d);rw[o,fC,u] at f;refine⟨.inr ⟨d,f,n⟩,λc e v=>?_⟩;refine⟨d,f,n,?_⟩;have t:(b[a].2.1-b[a].1).toNat<=c:=by
  rcases cO c (b[a].2.1-b[a].1).toNat with j|j
  ·have:=(m.2 c (c8 _) e e).1 j;omega
  exact j
 have:=p c t e;rw[f] at this;exact this
structure oP {α:Type} (lt:α->α->bA):Prop where
 SY:∀a b,lt a b=bp->lt b a=bq
 trans:∀a b c,lt b a=bq->lt c b=bq->lt c a=bq
theorem oP.int:oP (λa b:Z=>br (a<b)):=⟨λa b d=>by grind,λa b c e f=>by grind⟩
def tF {b:Type} (g:b->b->bA) (c:X->b) (e f:X):Prop:=∀d a,d<a->a<=e->a≠f->g (c a) (c d)=bq
def oQ {b:Type} (f:b->b->bA) (c:X->b) (e:X):Prop:=∀d a,d<a->a<e->f (c a) (c d)=bq
def swp {c:Type} (b:X->c) (a:X):X->c:=eB (eB b a (b (a-1))) (a-1) (b a)
def QY (b:X->k) (c:X):swp b a c=if c=a-1 then b a else if c=a then b (a-1) else b c:=rfl
def tF.swp {k:Type} {h:k->k->bA} (m:oP h) {f:X->k} {j a:X} (g:tF h f j a) (q:0<a) (r:a<=j) (n:h (f a) (f (a-1))=bp):tF h (swp f a) j (a-1):=by
 intro e b p i o;rw[QY,QY,ax o];by_cases c:b=a
 ·subst c;rw[au bn];by_cases d:e=b-1
  ·rw[au d];exact m.SY _ _ n
  rw[ax d,ax aa];exact g e (b-1) aa aa aa
 rw[ax c];by_cases d:e=a-1
 ·rw[au d];exact g a b aa i c
 rw[ax d];by_cases l:e=a
 ·rw[au l];exact g (a-1) b aa i c
 rw[ax l];exact g e b p i c
theorem tF.done {e:k->k->bA} (j:oP e) {c:X->k} (i:tF e c b a) (n:a<=b) (d:a=0\/e (c a) (c (a-1))=bq):oQ e c (b+1):=by
 intro g f l o;by_cases h:f=a
 ·subst h;rcases d with d|d
  ·omega
  by_cases m:g=f-1
  ·grind
  exact j.trans _ _ _ (i g (f-1) aa aa aa) d
 exact i g f l aa h
theorem QZ {c:X->k} (f:0<a) (g:a<b):(aB b (swp c a)).Perm (aB b c):=by have d:a<(aB b c).length:=(by grind [cY]);have e:a-1<(aB b c).length:=aa;have:=List.set_set_perm d e;rw[lE,lE,hA,hA] at this;exact this
theorem DJ [Inhabited k] (a:bm k):a=aB a.length (λb=>a[b]?.getD default):=UU a _ (λb c=>by grind)
theorem V1 (b:ahZ) (C:b.length<=1000):ae (CO (b,0,(b.length:Z),())) (λd=>∃a,d.1=aB b.length a/\oQ (λf g=>br (f<g)) a b.length/\d.1.Perm b):=by
 unfold CO;simp only[];generalize t:b.length=c at*;have u:bK.wrap (0+1)=((1:X):Z):=(by grind [cr]);rw[u];rcases n0 c with z|w
 ·subst z;refine bE (P:=λd=>d.1=b) ?_ ?_
  ·refine aik (λj=>j=(((1:X):Z),b,())) (λ_=>0) rfl ?_;rintro _ rfl;simp only[cQ];rw[ax aa];grind [bu]
  rintro⟨d,_⟩ rfl;refine bu.2 ⟨λ_=>0,?_,λm n o p=>by omega,akb _⟩;show d=[];grind
 refine bE (P:=λd=>∃a,d.1=aB c a/\oQ (λf g=>br (f<g)) a c/\d.1.Perm b) ?_ (λd y=>bu.2 y);refine ae.for c (λh A=>∃a,A=(aB c a,())/\oQ (λf g=>br (f<g)) a h/\(aB c a).Perm b) rfl ⟨λh=>b[h]?.getD default,?_,λm n o p=>by omega,?_⟩ w ?_ ?_
 ·rw[<-t,<-DJ]
 ·rw[<-t,<-DJ]
 ·rintro h _ o p ⟨a,rfl,q,i⟩;simp only[cQ];rw[au aa];refine bE (P:=λd=>∃a,d=(aB c a,())/\oQ (λf g=>br (f<g)) a (h+1)/\(aB c a).Perm b) ?_ ?_
  ·refine aik (λj=>∃(e:X) (a:X->Z),j=((e:Z),aB c a,())/\e<=h/\tF (λf g=>br (f<g)) a h e/\(aB c a).Perm b) (λj=>j.1.toNat) ⟨h,a,bn,bc _,λm n x E D=>q m n x aa,i⟩ ?_;rintro _ ⟨e,a,rfl,l,k,i⟩;simp only[yP];by_cases r:0<e
   ·have B:e-1<c:=aa;have v:e<c:=aa;simp(disch:=omega) only[au,cY,vF,eS,gV,aC,KE,cQ];by_cases s:a e<a (e-1)
    ·rw[au s];simp(disch:=omega) only[aC,cY,vF,eS,gV,hA];refine bu.2 ⟨⟨e-1,swp a e,bn,aa,k.swp oP.int r l (by grind),(QZ r v).trans i⟩,?_⟩;omega
    rw[ax s];exact bu.2 ⟨a,bn,k.done oP.int l (.inr (by grind)),i⟩
   rw[ax aa];exact bu.2 ⟨a,bn,k.done oP.int l (.inl aa),i⟩
  grind [iN,bu]
 rintro _ ⟨a,rfl,q,i⟩;simp only[cQ];rw[ax aa];grind [bu]
theorem oQ.pairwise {b:X->Z} (e:oQ (λc d=>br (c<d)) b a):(aB a b).Pairwise (· <= ·):=by rw[h4];intro g h i j f;rw[lE,lE];have:=e g h f (by grind [cY]);grind
theorem KD (a:X) (c:a<=12):∃b,Cx ((a:Z),())=Y (b,()):=by
 have:a=0\/a=1\/a=2\/a=3\/a=4\/a=5\/a=6\/a=7\/a=8\/a=9\/a=10\/a=11\/a=12:=aa;rcases this with rfl|rfl|rfl|rfl|rfl|rfl|rfl|rfl|rfl|rfl|rfl|rfl|rfl
 ·exact⟨0,by kernel_rfl⟩
 ·exact⟨1,by kernel_rfl⟩
 ·exact⟨2,by kernel_rfl⟩
 ·exact⟨2,by kernel_rfl⟩
 ·exact⟨3,by kernel_rfl⟩
 ·exact⟨3,by kernel_rfl⟩
 ·exact⟨3,by kernel_rfl⟩
 ·exact⟨3,by kernel_rfl⟩
 ·exact⟨4,by kernel_rfl⟩
 ·exact⟨4,by kernel_rfl⟩
 ·exact⟨4,by kernel_rfl⟩
 ·exact⟨4,by kernel_rfl⟩
 exact⟨4,by kernel_rfl⟩
theorem aa2 (a:ahZ) (c:Z) (h:a.length<=12):ae (CR (a,0,(a.length:Z),c,())) (λb=>b.1.Pairwise (· <= ·)/\b.1.Perm a):=by obtain⟨b,i,g,f,e,d⟩:=V1 a aa;refine⟨b,?_,by rw[f];exact e.pairwise,d⟩;unfold CR;dsimp only;rw[Ei];dsimp only;have j:bK.wrap ((a.length:Z)-0)=((a.length:X):Z):=(by rw[Int.sub_zero];grind [A7]);grind
theorem Sa (a:ahZ) (c:a.length<=12):ae (zh (a,())) (λb=>b.1.Pairwise (· <= ·)/\b.1.Perm a):=by grind [bE,aa2,bu,KD,Km,zh]
section
open Go
theorem TL (h:d.Pairwise (· <= ·)):(aiQ d).length<d.length↔¬d.Nodup:=by
 have g:(aiQ d).length=((bI d.length).filter (ak1 d.toArray)).length:=(by simp[aiQ,Lib.compactUpTo]);have e:(∀a,a<d.length->ak1 d.toArray a=bp)↔d.Nodup:=by
  have f:∀a,(b:a<d.length)->(ak1 d.toArray a=bp↔a=0\/d[a]≠d[a-1]):=λa b=>(by grind [ak1]);constructor
  ·intro b;have c:d.Pairwise (· < ·):=by
    grind [ah1,Az]
   exact c.imp (λb=>by omega)
  grind [ajl]
 grind [cl,ai2,List.length_filter_eq_length_iff,ajq,air]
def adJ (a:ahZ) (e:a.length<=12):B5 (a,())=Y (br (¬a.Nodup),()):=by obtain⟨c,g,h,b⟩:=Sa a e;have f:=b.length_eq;unfold B5 A4;simp only[g,i9,aC];rw[show b2 a.length 1000000=bp from am9 aa];simp only[bG];rw[show b2 c.1.length 1000000=bp from am9 aa];simp only[bG,i9];have d:br ((aiQ c.1).length<a.length)=br (¬a.Nodup):=(by rw[cx,<-f,TL h,b.nodup_iff]);rw[d]
def h8 (a:X) (b:X->X->bA):eu:=aB a λc=>aB a (b c)
theorem Ac (a:X) (b:X->X->bA):(h8 a b).length=a:=cY a _
def NV {d:X->X->bA} (e:∀b c,b<a->c<a->r b c=d b c):h8 a r=h8 a d:=c9 λb f=>c9 λc g=>e b c f g
theorem KG (a:X) (e:a<=4294967296):y0 ((a:Z),())=Y (h8 a λ_ _=>bq,()):=by
 unfold y0;simp only[];rw[h9 e];simp only[aC];refine ai (y:=(h8 a λ_ _=>bq,())) (Ab a (λd=>(aB a (λb=>if b<d then bJ a bq else[]),())) 0 bn ?_ (c8 _) ?_ ?_) rfl
 ·rw[jb];simp
 ·intro d _ f;simp(disch:=omega) only[cY,qC,cQ,au,aC,eS,gV,hA,iN];congr 4;refine c9 λb c=>?_;simp only[eB];grind
 simp only[qC,cQ];rw[ax aa];congr 2;refine b3 (·,()) (c9 λb c=>?_);rw[au c,jb]
theorem KC {n:X} {B:X->X->bA} {i j:X} (k:i<n) (l:j<n):y3 (h8 n B,(i:Z),(j:Z),())=Y (h8 n (λa b=>B a b||(br (i≠j)&&((br (a=i)&&br (b=j))||(br (a=j)&&br (b=i))))),()):=by
 unfold y3;simp only[fX];by_cases e:i=j
 ·simp_all
 rw[aI (aa:¬((i:Z)=(j:Z)))];unfold h8;simp(disch:=omega) only[mh,bG,cY,eS,aC,gV,i9,hA];rw[show eB (λg=>aB n (B g)) i (aB n (eB (B i) j bp)) j=aB n (B j) from hb _ _ (λd=>e d.symm)];simp(disch:=omega) only[cY,eS,aC,gV,i9,hA];congr 2;refine c9 λa h=>?_;simp only[eB];by_cases c:a=j
 ·rw[au c,c];grind [c9,eB]
 rw[ax c];by_cases f:a=i
 ·subst f;rw[au bn];grind [c9,eB]
 simp_all
theorem RV (i:b<=4294967296) (f:a<b):B2 (h8 b r,(a:Z),())=Y (a5 ((bI b).filter (r a)),()):=by
 unfold B2;simp only[];rw[show ao (h8 b r) (a:Z)=Y (aB b (r a)) from rp f];simp only[aC];refine ai (y:=(a5 ((bI b).filter (r a)),())) (Ab b (λc=>(a5 ((bI c).filter (r a)),())) 0 bn rfl (c8 _) ?_ ?_) rfl
 ·intro c _ g;have h:(a5 ((bI c).filter (r a))).length<=c:=(by grind [air,fJ]);have e:a5 ((bI (c+1)).filter (r a))=if r a c=bp then a5 ((bI c).filter (r a))++[(c:Z)] else a5 ((bI c).filter (r a)):=by
   grind [ais,oq,a5]
  simp(disch:=omega) only[cY,cQ,au,rp,aC,iN];rw[e];by_cases d:r a c=bp
  ·rw[au d,d,da (by grind)];rfl
  grind
 simp_all [cY,cQ,ax]
def j0 (a:X) (b:X->X->bA):ew:=aB a λc=>a5 ((bI a).filter (b c))
theorem KB (e:a<=4294967296):y2 (h8 a r,())=Y ((j0 a r,()),()):=by
 unfold y2;simp only[Ac];rw[h9 e];simp only[aC];refine ai (y:=(([],()),(j0 a r,()),())) (Ab a (λd=>(([],()),(aB a (λb=>if b<d then a5 ((bI a).filter (r b)) else[]),()),())) 0 bn ?_ (c8 _) ?_ ?_) rfl
 ·rw[jb];simp
 ·intro d _ f;simp(disch:=omega) only[cQ,au,RV,aC,cY,eS,gV,i9,hA,iN];congr 6;refine c9 λb c=>?_;simp only[eB];grind
 simp only[cQ];rw[ax aa];have:(aB a λb=>if b<a then a5 ((bI a).filter (r b)) else[])=j0 a r:=c9 λb c=>(by rw[au c]);grind
end
section
open Go
def gp (a:ahZ) (b:X):Prop:=a.length=b/\(∀c∈a,0<=c/\c<(b:Z))/\a.Nodup
open Classical in
theorem R0 (a:ahZ) (c:X) (s:c<=4294967296):CW (a,(c:Z),())=Y (br (gp a c),()):=by
 unfold CW;simp only[fX];by_cases m:a.length=c
 ·rw[aK (aa:(((a.length:X):Z)=(c:Z)))];simp only[gR,bP,h9 s,aC,jb];rw[<-bQ];refine bE (P:=λu=>match u with|.inl _=>gp a c|.inr v=>v=(bq,())/\¬gp a c) ?_ ?_
  ·refine ae.for c (λb w=>w=(aB c (λp=>br ((p:Z)∈a.take b)),())/\(∀e,(d:e<a.length)->e<b->0<=a[e]/\a[e]<(c:Z))/\(a.take b).Nodup) (i0:=0) rfl ⟨ac,λe _ d=>by omega,ac⟩ (c8 _) ?_ ?_
   ·rintro b _ _ x ⟨rfl,t,q⟩;have l:b<a.length:=aa;have k:ao a (b:Z)=Y a[b]:=gN (ba l);have o:a[b]∈a:=cR l;simp(disch:=omega) only[cQ,au,k,aC,wB];by_cases i:a[b]<0
    ·rw[au i];exact bu.2 ⟨bn,λd=>by have:=d.2.1 _ o;omega⟩
    rw[ax i];by_cases j:a[b]>=(c:Z)
    ·rw[au j];exact bu.2 ⟨bn,λd=>by have:=d.2.1 _ o;omega⟩
    rw[ax j];obtain⟨f,h⟩:∃f:X,a[b]=(f:Z):=⟨a[b].toNat,aa⟩;have B:f<c:=aa;rw[h];simp(disch:=omega) only[cY,eS,aC,gV,cQ];by_cases g:(f:Z)∈a.take b
    ·rw[au g];refine bu.2 ⟨bn,λd=>?_⟩;obtain⟨D,r,n⟩:=ht.1 g;simp only[fU] at r;simp only[List.getElem_take] at n;have:=(qA d.2.2).1 (n.trans h.symm);omega
    rw[ax g];simp(disch:=omega) only[aC,k,h,cY,eS,gV,hA,iN];have A:a.take (b+1)=a.take b++[(f:Z)]:=(by grind [tr]);refine bu.2 ⟨bn,?_,λe y z=>?_,?_⟩
    ·show((_,()):_×bt)=_;refine b3 (·,()) (c9 λp _=>?_);simp only[eB];grind
    ·grind
    grind
   rintro _ ⟨rfl,t,q⟩;simp(disch:=omega) only[cQ,ax];refine bu.2 ⟨m,λE C=>?_,?_⟩
   ·grind [aiS]
   grind
  grind [bu,aK,aI]
 rw[aI (aa:¬(((a.length:X):Z)=(c:Z)))];simp only[mh,bG];rw[aI (λd=>m d.1)]
def mC (a:ew) (b:ahZ):Z:=open Classical in if iy a≠0 then iy a else if b.length≠a.length then 2 else if gp b a.length then 0 else 90
theorem Jw (d:∀h∈l,h.length<4611686018427387904) (a:ahZ):q3 ((l,()),a,())=Y (if mC l a=0 then((jI (j1 l a),()),0,()) else(([],()),mC l a,())):=by
 classical
 unfold q3 mC;simp only[AN l d,aC,fX];by_cases c:iy l=0
 ·obtain⟨g,e⟩:=qQ.1 c;rw[aK c];simp only[gR,bP,c,ne_eq,ajK,if_false];by_cases f:a.length=l.length
  ·rw[aK (aa:(((a.length:X):Z)=((l.length:X):Z)))];simp only[gR,bP,f,ajK,if_false];rw[R0 a l.length aa];simp only[aC];by_cases b:gp a l.length
   ·rw[aK b];simp only[gR,bP,au b,cf];rw[RT e d g b.2.1 b.2.2 aa];rfl
   grind
  grind
 grind
theorem aeg (b:ew) (a:Z):B6 ((b,()),a,())=Y (br (0<=a/\a<(b.length:Z)),()):=by unfold B6;grind
theorem aaR (d:ew) (a:ahZ) (j:a.length<4611686018427387904):CJ (a,(Y (d,()),()),())=Y (br (¬∀c∈a,0<=c/\c<(d.length:Z)),()):=by
 classical
 unfold CJ GW;simp only[];rw[<-bQ];have i:(∀c∈a,0<=c/\c<(d.length:Z))↔∀b,b<a.length->∀e:b<a.length,0<=a[b]/\a[b]<(d.length:Z):=
  ⟨λe b _ f=>e _ (cR f),λe c k=>by grind [aiS]⟩
 refine bE (P:=λg=>br (g.1>=0)=br (¬∀c∈a,0<=c/\c<(d.length:Z))) ?_ (λg h=>bu.2 (by rw[h]));refine bE (Io a.length (λb=>∀e:b<a.length,0<=a[b]/\a[b]<(d.length:Z)) ?_ ?_) ?_
 ·intro b f;simp(disch:=omega) only[cQ,au,gN (ba f),aC,iN];unfold GJ;simp only[aC,aeg];grind
 ·grind
 grind [bu,aI,aK]
theorem R1 (i:∀n∈l,n.length<4611686018427387904) (a:ahZ) (k:l.length<=200->fk l->l.length<=12) (m:a.length<4611686018427387904):B1 ((l,()),a,())=Y (mC l a,()):=by
 classical
 unfold B1 mC;simp only[FH l i,aC,fX];by_cases e:iy l=0
 ·obtain⟨j,h⟩:=qQ.1 e;have o:=k j h;rw[aK e];simp only[gR,bP,e,ne_eq,ajK,if_false];by_cases f:a.length=l.length
  ·rw[aK (aa:(((a.length:X):Z)=((l.length:X):Z)))];simp only[gR,bP,f,ajK,if_false];rw[aaR l a m];simp only[aC];by_cases b:∀g∈a,0<=g/\g<(l.length:Z)
   ·rw[aI (ah2 b)];simp only[aix,bG];rw[adJ a aa];simp only[aC,cQ];by_cases c:a.Nodup
    ·rw[ax (ah2 c),au ⟨f,b,c⟩]
    rw[au c,ax (λd=>c d.2.2)]
   rw[aK b,ax (λd=>b d.2.1)];rfl
  grind
 grind
end
section
open Go
def p3 (c:ew) (a:ahZ) (b d:X):bA:=br (a.getD d 0∈c.getD (a.getD b 0).toNat [])
theorem Ng (k:fk l) (i:∀c∈d,0<=c/\c<(l.length:Z)) (m:a<d.length) (n:b<d.length):p3 l d a b=p3 l d b a:=by have o:=i _ (cR m);have p:=i _ (cR n);have u:∀c e:Z,0<=c/\c<(l.length:Z)->0<=e/\e<(l.length:Z)->e∈l.getD c.toNat []->c∈l.getD e.toNat []:=λc e s t h=>(by obtain⟨f,rfl⟩:∃f:X,c=(f:Z):=⟨c.toNat,aa⟩;obtain⟨g,rfl⟩:∃g:X,e=(g:Z):=⟨e.toNat,aa⟩;simp only[fC] at h|-;have j:f<l.length:=aa;have r:g<l.length:=aa;rw[xg j] at h;obtain⟨_,q⟩:=akY k f g ⟨j,h⟩;grind);unfold p3;grind
theorem Vs (f:fk l) (g:∀e∈d,0<=e/\e<(l.length:Z)):j0 d.length (λa b=>br (a≠b)&&p3 l d a b)=jI (j1 l d):=by unfold j0 jI;rw[xj];refine ia λi c=>?_;have c:=ig.1 c;unfold a5 mA;refine b3 _ (py λj h=>?_);grind [Bool.or_self,Ng,Gn,p3]
theorem VV (s:fk l) (t:∀d∈l,d.length<4611686018427387904) (x:∀p∈d,0<=p/\p<(l.length:Z)) (G:d.length<=400):B4 ((l,()),d,())=Y ((jI (j1 l d),()),()):=by
 generalize n:d.length=c at*
 let h:X->X->X->X->bA:=λa b e f=>br (e≠f)&&(p3 l d e f&&((br (e<a)&&br (f<a))||((br (e=a)&&br (f<b))||(br (f=a)&&br (e<b)))))
 unfold B4;simp only[n];rw[KG c aa];simp only[aC];refine ai (y:=(([],()),h8 c (h c 0),())) (Ab c (λa=>(([],()),h8 c (h a 0),())) 0 bn ?_ (c8 _) ?_ ?_) ?_
 ·grind
 ·intro a _ w;have m:a<d.length:=aa;have u:ao d (a:Z)=Y d[a]:=gN (ba m);have k:=x _ (cR m);obtain⟨g,o⟩:∃g:X,d[a]=(g:Z):=⟨d[a].toNat,aa⟩;have i:g<l.length:=aa;simp(disch:=omega) only[cQ,au,u,aC,vc,n,p4,i9,o,lV];have z:(d.take a).length=a:=(by grind);refine ai (y:=(([],()),h8 c (h a a),())) (Ab a (λb=>(([],()),h8 c (h a b),())) 0 bn rfl (c8 _) ?_ ?_) ?_
  ·intro b _ E;have F:b<d.length:=aa;have v:ao (d.take a) (b:Z)=Y d[b]:=gN (by grind);simp(disch:=omega) only[z,cQ,au,v,aC,iN];rw[H3 l g d[b] i (t _ (cR i)) ((F8 l).1 s g i).1];simp only[aC,cQ];have q:p3 l d a b=br (d[b]∈l[g]):=by
    grind [xg,aiA,p3]
   have r:p3 l d b a=br (d[b]∈l[g]):=(by grind [Ng]);by_cases j:d[b]∈l[g]
   ·rw[au j,KC w aa];simp only[aC];refine b3 (λA=>Y (Sum.inl (((b+1:X):Z),([],()),A,()))) (NV λe f _ _=>?_);rw[aK j] at q r;simp only[h];rw[vN];simp only[je,cC,aip];constructor
    ·rintro(⟨k,C,D⟩|⟨k,⟨rfl,rfl⟩|⟨rfl,rfl⟩⟩)
     ·grind
     ·grind
     grind
    grind
   grind
  ·grind
  simp(disch:=omega) only[iN];grind
 ·grind
 rw[KB aa];simp only[aC];have B:j0 c (h c 0)=j0 c (λe f=>br (e≠f)&&p3 l d e f):=(by refine c9 λg o=>b3 a5 (py λI H=>?_);grind);grind [Vs]
theorem R5 (c:∀j∈l,j.length<4611686018427387904) (a:ahZ) (g:l.length<=200->fk l->l.length<=12) (h:a.length<4611686018427387904):y1 ((l,()),a,())=Y (if mC l a=0 then((jI (j1 l a),()),0,()) else(([],()),mC l a,())):=by
 classical
 unfold y1;simp only[R1 c a g h,aC,fX];by_cases b:mC l a=0
 ·rw[aK b,au b];simp only[gR,bP];have e:iy l=0:=by
   by_cases i:iy l=0
   ·exact i
   simp_all [au,mC,absurd]
  obtain⟨k,f⟩:=qQ.1 e;have d:gp a l.length:=(by unfold mC at b;grind);rw[VV f c d.2.1 (by have:=d.1;omega)];rfl
 grind
end
def jK (E:bm cW) (b c:X):bA:=E.any λa=>br (a.1≠a.2.1)&&((br ((b:Z)=a.1)&&br ((c:Z)=a.2.1))||(br ((b:Z)=a.2.1)&&br ((c:Z)=a.1)))
def lN (E:bm cW) (b c:X):bA:=E.any λa=>br ((b:Z)=a.1)&&br ((c:Z)=a.2.1)
theorem Gd {b:k->bA} {E:bm k} (c:a<E.length):(E.take (a+1)).any b=((E.take a).any b||b E[a]):=by grind [ct,bS]
theorem WV (a:X) (b:X->X->bA) (e:∀c d,b c d=bq):(bJ a (bJ a bq))=h8 a b:=by grind [c9,jb,h8]
theorem S5 (c:b<a) (d:f<a):hx (h8 a r) b f=r b f:=by grind [jl,aB,hx,h8]
theorem MR (d:X) (b:X->X->bA):jI (h8 d b)=j0 d λa c=>a !=c&&(b a c||b c a):=by unfold jI;rw[Ac];refine c9 λa e=>?_;grind [S5,List.filter_congr,mA,a5]
theorem Nm {E:bm cW} (a b:X):(a !=b&&(lN E a b||lN E b a))=jK E a b:=by
 induction E with
 |nil=>simp[lN,jK]
 |cons h E g=>
  unfold lN jK at*;simp only[List.any_cons];rw[<-g,vN];simp only[cC,je,bne_iff_ne,aip];constructor
  ·rintro⟨f,(⟨d,e⟩|c)|(⟨d,e⟩|c)⟩
   ·omega
   ·grind
   ·omega
   grind
  rintro(⟨f,⟨d,e⟩|⟨d,e⟩⟩|⟨f,c|c⟩)
  ·omega
  ·omega
  ·grind
  grind
theorem RQ (f:ji a a h d w) (o:gE a a h d w=0):yZ (((a:Z),(a:Z),h,d,w,()),())=Y ((j0 a (jK (c6 h d w a)),()),0,()):=by
 have l:=(jG.1 o).1;have t:=q8 l;have y:(c6 h d w a).length<=10000:=(by rw[zM l a (cj _)];have:=l.p5 a (cj _);have:=f.hi;omega);unfold yZ;refine ai f.check ?_;dsimp only;rw[o,fX,aK bn,fX,aK bn];have x:=f.hc;refine ai (KG a aa) (ai (RI f o) ?_);dsimp only;generalize c6 h d w a=E at*;refine bQ.1 ?_;refine bE (P:=λu=>u=(([],()),h8 a (jK E),())) ?_ ?_
 ·refine bO E.length (λb v=>v=((b:Z),([],()),h8 a (jK (E.take b)),E,())) rfl ?_ ?_
  ·rintro b _ m rfl;dsimp only;rw[aY (aK (show(b:Z)<al E by grind)),js m,bk aa];have s:=t E[b] (b7 m);obtain⟨c,p⟩:=cB s.1;obtain⟨e,q⟩:=cB s.2.2.1;have r:=KC (n:=a) (B:=jK (E.take b)) (i:=c) (j:=e) aa aa;rw[<-p,<-q] at r;refine bz r (bu.2 ?_);dsimp only;have:h8 a (λg k=>jK (E.take b) g k||(br (c≠e)&&((br (g=c)&&br (k=e))||(br (g=e)&&br (k=c)))))=h8 a (jK (E.take (b+1))):=by
    refine NV λz A _ _=>?_;unfold jK;rw[Gd m,p,q];grind
   grind
  rintro _ rfl;dsimp only;rw[a1 (aI (show¬((E.length:Z)<al E) by grind)),ch (cj _)];grind [bu]
 grind [bz,KB,bu]
theorem PR (f:ji a a h d i) (l:gE a a h d i=0):sC (((a:Z),(a:Z),h,d,i,()),())=Y ((j0 a (jK (c6 h d i a)),()),0,()):=by
 have j:=(jG.1 l).1;have q:=q8 j;have y:(c6 h d i a).length<=10000:=(by rw[zM j a (cj _)];have:=j.p5 a (cj _);have:=f.hi;omega);unfold sC;refine ai f.xR ?_;dsimp only;rw[l,fX,aK bn,fX,aK bn];have x:=f.hc;refine ai (Mn a aa) (ai (PQ f l) ?_);dsimp only;generalize c6 h d i a=E at*;refine bQ.1 ?_;refine bE (P:=λv=>v=(([],()),h8 a (lN E),())) ?_ ?_
 ·refine bO E.length (λc w=>w=((c:Z),([],()),h8 a (lN (E.take c)),())) ?_ ?_ ?_
  ·rw[WV a (lN (E.take 0)) λb g=>rfl];rfl
  ·rintro c _ k rfl;dsimp only;rw[aY (aK (show(c:Z)<al E by grind)),bk aa];have p:=q E[c] (b7 k);obtain⟨e,r⟩:=cB p.1;obtain⟨m,s⟩:=cB p.2.2.1;have o:e<a:=aa;have t:m<a:=aa;refine bz (e3 k) ?_;rw[r];refine bz (eS (by grind [Ac])) (bz (e3 k) ?_);rw[s];unfold h8;rw[gV o,bN];refine bz (eS (by grind [cY])) ?_;rw[gV o,gV t,hA,ajI,bN,hA];refine bu.2 ?_;have:aB a (eB (λb=>aB a (lN (E.take c) b)) e (aB a (eB (lN (E.take c) e) m bp)))=aB a λb=>aB a (lN (E.take (c+1)) b):=by
    refine c9 λb z=>?_;by_cases n:b=e
    ·subst n;grind [hb,aI,gI,Gd,c9,lN]
    rw[hb _ _ n];grind [Gd,aI,c9,lN]
   grind
  rintro _ rfl;dsimp only;rw[a1 (aI (show¬((E.length:Z)<al E) by grind)),ch (cj _)];grind [bu]
 rintro _ rfl;dsimp only;refine bz (Kz _ (λA u=>?_) (by grind [Ac])) (bu.2 ?_)
 ·rw[Ac];unfold h8 aB at u;grind
 dsimp only;rw[MR];have:(λb g=>b !=g&&(lN E b g||lN E g b))=jK E:=(by grind [Nm]);grind
section
open Go
def nJ (b:ahZ) (a:X):X:=(b.getD a 0).toNat
theorem gp.get {n:X} (b:gp d n) (c:a<n):ao d (a:Z)=Y ((nJ d a:X):Z)/\nJ d a<n:=by have e:a<d.length:=(by rw[b.1];exact c);have f:=b.2.1 _ (cR e);grind [gN,bS,xg,nJ]
theorem gp.inj (c:gp d b) {j:X} (h:j<b) (i:a<b) (e:nJ d j=nJ d a):j=a:=by have f:j<d.length:=(by rw[c.1];exact h);have g:a<d.length:=(by rw[c.1];exact i);have k:=c.2.1 _ (cR f);have l:=c.2.1 _ (cR g);unfold nJ at e;rw[xg f,xg g] at e;exact(qA c.2.2).1 aa
end
section
open Go
theorem XE:∀{n:X} {a:ahY},a.Nodup->(∀d∈a,d<n)->a.length<=n:=by
 intro n
 induction n with
 |zero=>intro a _ b;cases a with
  |nil=>grind
  |cons e a=>grind [alZ]
 |succ n g=>
  intro a c b;have f:(a.erase n).Nodup:=c.erase n;grind
section
variable {A:ew} (B:fk A)
include B
end
end
section
open Go
def Dy (A:ew) (a:Z):X:=(A.getD a.toNat []).length
section
variable {A:ew} (B:fk A) (C:A.length<=200)
include B C
end
end
section
open Go
def D7 (k:Z->Z->ahX) (l:ahZ) (f j:Z):bv eh:=
 (loop (σ:=eb) (ρ:=eh) (λ(d,g,_)=>
  bif br (d<j) then
 (loop (σ:=eb) (ρ:=eh) (λ(a,c,_)=>
 bB (α:=eh⊕dJ) (bif br (a>f)==bp then(bj c.length a).bind λv=>
 (a9 c v λo=>Y o).bind λz=>
 (bj c.length (bK.wrap (a-(1:Z)))).bind λs=>
 (a9 c s λp=>Y p).bind λA=>
 (k z A).bind λ(y,_)=>
  bif br (y<(0:Z)) then
 Y (.inl (c,())) else
 Y (.inr (.inr (c,()))) else Y (.inr (.inr (c,())))) λw=>match w with
 |.inl (b,_)=>(
 (bj b.length (bK.wrap (a-(1:Z)))).bind λt=>
 (a9 b t λq=>Y q).bind λB=>
 (bj b.length a).bind λu=>
 (a9 b u λr=>Y r).bind λC=>
 (bj b.length a).bind λh=>
 (a9 b h λ_=>Y (b.set h B)).bind λe=>
 (bj e.length (bK.wrap (a-(1:Z)))).bind λi=>
 (a9 e i λ_=>Y (e.set i C)).bind λD=>
 Y (.inl (bK.wrap (a-(1:Z)),D,())))
 |.inr x=>Y x) (d,g,())).bind λ(m,_)=>
 Y (.inl (bK.wrap (d+(1:Z)),m,())) else
 Y (.inr (g,()))) (bK.wrap (f+(1:Z)),l,())).bind λ(n,_)=>
 Y (n,())
def VX {cmp:Z->Z->ahX} {h:Z->Z->bA} (m:oP h) (c:ahZ) (A:∀r s,r∈c->s∈c->∃d,cmp r s=Y (d,())/\(d<0↔h r s=bp)) (I:c.length<=1000):ae (D7 cmp c 0 (c.length:Z)) (λd=>∃a,d.1=aB c.length a/\oQ h a c.length/\d.1.Perm c):=by
 unfold D7;generalize o:c.length=e at*;have z:bK.wrap (0+1)=((1:X):Z):=(by rw[cr]<;>omega);rw[z];rcases n0 e with G|C
 ·subst G;refine bE (P:=λd=>d.1=c) ?_ ?_
  ·refine aik (λj=>j=(((1:X):Z),c,())) (λ_=>0) rfl ?_;rintro _ rfl;simp only[cQ];rw[ax aa];exact bu.2 bn
  rintro⟨d,_⟩ rfl;refine bu.2 ⟨λ_=>0,?_,λp q t u=>by omega,akb _⟩;show d=[];exact qv o
 refine bE (P:=λd=>∃a,d.1=aB e a/\oQ h a e/\d.1.Perm c) ?_ (λd E=>bu.2 E);refine ae.for e (λg H=>∃a,H=(aB e a,())/\oQ h a g/\(aB e a).Perm c) rfl ⟨λg=>c[g]?.getD default,?_,λp q t u=>by omega,?_⟩ C ?_ ?_
 ·rw[<-o,<-DJ]
 ·rw[<-o,<-DJ]
 ·rintro g _ t u ⟨a,rfl,i,f⟩;simp only[cQ];rw[au aa];refine bE (P:=λd=>∃a,d=(aB e a,())/\oQ h a (g+1)/\(aB e a).Perm c) ?_ ?_
  ·refine aik (λj=>∃(b:X) (a:X->Z),j=((b:Z),aB e a,())/\b<=g/\tF h a g b/\(aB e a).Perm c) (λj=>j.1.toNat) ⟨g,a,bn,bc _,λp q D K J=>i p q D aa,f⟩ ?_;rintro _ ⟨b,a,rfl,n,l,f⟩;simp only[yP];by_cases v:0<b
   ·have B:b-1<e:=aa;have w:b<e:=aa;obtain⟨d,F,x⟩:=A (a b) (a (b-1)) (f.mem_iff.1 (NX.2 ⟨b,w,bn⟩)) (f.mem_iff.1 (NX.2 ⟨b-1,B,bn⟩));simp(disch:=omega) only[au,cY,vF,eS,gV,aC,F,cQ];by_cases k:h (a b) (a (b-1))=bp
    ·rw[au (x.2 k)];simp(disch:=omega) only[aC,cY,vF,eS,gV,hA];refine bu.2 ⟨⟨b-1,swp a b,bn,aa,l.swp m v n k,(QZ v w).trans f⟩,?_⟩;show((b-1:X):Z).toNat<((b:X):Z).toNat;omega
    rw[ax (λy=>k (x.1 y))];exact bu.2 ⟨a,bn,l.done m n (.inr (by simpa using k)),f⟩
   rw[ax aa];exact bu.2 ⟨a,bn,l.done m n (.inl aa),f⟩
  rintro _ ⟨a,rfl,i,f⟩;simp(disch:=omega) only[iN];exact bu.2 ⟨bn,a,bn,i,f⟩
 rintro _ ⟨a,rfl,i,f⟩;simp only[cQ];rw[ax aa];exact bu.2 ⟨a,bn,i,f⟩
def NG (a:ew) (b c:Z):Prop:=Dy a b<Dy a c\/(Dy a b=Dy a c/\b<c)
instance(a:ew) (b c:Z):aiE (NG a b c):=by unfold NG;exact inferInstance
end
section
open Go
def hK (o:ahZ) (a:X):X:=o.idxOf (a:Z)
section
variable {o:ahZ} {n:X} (A:gp o n)
include A
theorem gp.mem (j:a<n):(a:Z)∈o:=by
 apply Classical.byContradiction;intro d;obtain⟨g,h,i⟩:=A;have e:o=a5 (o.map aiv):=by
  unfold a5;rw[oJ]
  conv=>lhs;rw[<-List.map_id o]
  grind [aii]
 have b:(o.map aiv).Nodup:=(by grind [ah1,b7]);have c:a∉o.map aiv:=λf=>d (by grind);have:=XE (n:=n) (ko.2 ⟨c,b⟩) (λl k=>by
  grind)
 grind
theorem gp.pos (d:a<n):hK o a<n/\nJ o (hK o a)=a:=by have b:=A.mem d;have c:hK o a<o.length:=List.idxOf_lt_length_iff.2 b;refine⟨by rw[<-A.1];exact c,?_⟩;grind [xg,hK,nJ]
theorem gp.PH (b:a<n):hK o (nJ o a)=a:=by have c:=(A.get b).2;obtain⟨d,e⟩:=A.pos c;exact A.inj d b e
end
section
variable {B:ew} (C:fk B) {o:ahZ} (A:gp o B.length)
include C A
end
end
def nR (E:bm cW) (b c:Z):Z:=match E.find? λa=>br (a.1=b)&&br (a.2.1=c) with
 |some a=>a.2.2.1
 |none=>0
theorem Ur {E:bm cW} (i:E.Pairwise hh) {a:cW} (c:t∈E) (d:a∈E) (g:t.1=a.1) (h:t.2.1=a.2.1):t=a:=by
 obtain⟨e,j,rfl⟩:=ht.1 c;obtain⟨f,k,rfl⟩:=ht.1 d;rcases r4 e f with b|b|b
 ·grind [ah1,hh]
 ·grind
 grind [ah1,hh]
theorem Rn {E:bm cW} (e:E.Pairwise hh) (f:t∈E):nR E t.1 t.2.1=t.2.2.1:=by
 unfold nR;cases b:E.find? λa=>br (a.1=t.1)&&br (a.2.1=t.2.1) with
 |none=>
  grind
 |some a=>
  have c:=List.find?_some b;have d:=alx b;simp only[cC,aip] at c;grind [Ur]
theorem ad8 {E:bm cW} (b:∀a∈E,¬(a.1=c/\a.2.1=j)):nR E c j=0:=by grind [List.find?_eq_none,nR]
theorem Ro {E:bm cW} (d:(E++[t]).Pairwise hh) (b c:Z):nR (E++[t]) b c=if t.1=b/\t.2.1=c then t.2.2.1 else nR E b c:=by
 by_cases a:t.1=b/\t.2.1=c
 ·rw[au a,<-a.1,<-a.2,Rn d ac]
 rw[ax a];unfold nR;grind
theorem ad6 {E:bm cW} (f:∀d∈E,eK d.2.2.1) (b c:Z):eK (nR E b c):=by
 unfold nR;cases e:E.find? λa=>br (a.1=b)&&br (a.2.1=c) with
 |none=>exact⟨ab,ab⟩
 |some a=>grind
theorem ad7 {E:bm cW} (d:∀c∈E,bd c.2.2.1≠2047) (a b:Z):bd (nR E a b)≠2047:=by grind [alx,decide,bd,nR]
theorem NW (g:gz f b d h i) (k:a<b):t∈c6 d h i b/\t.2.1=(a:Z)↔∃c:X,d.getD a 0<=(c:Z)/\(c:Z)<d.getD (a+1) 0/\t=(h.getD c 0,(a:Z),i.getD c 0,()):=by
 have r:=g.pos a aa;have s:=g.pos (a+1) aa;constructor
 ·rintro⟨e,l⟩;obtain⟨j,o,e⟩:=Af.1 e;obtain⟨u,q,rfl⟩:=va.1 e;have p:j=a:=(by grind);grind
 rintro⟨c,m,n,rfl⟩;refine⟨Af.2 ⟨a,k,va.2 ⟨c-(d.getD a 0).toNat,aa,?_⟩⟩,bn⟩;grind
theorem abB (m:ji f b h d i) (w:gE f b h d i=0) (k:Z) (p:a<b):Dg (((f:Z),(b:Z),h,d,i,()),k,(a:Z),())=Y (nR (c6 h d i b) k (a:Z),()):=by
 have g:=(jG.1 w).1;have A:=g.pos a aa;have B:=g.pos (a+1) aa;have I:=g.p5 (a+1) aa;have J:=g.val;have G:=g.mono a p;have F:=g.len;have E:=m.hi;have u:=q9 g b (bc _);have D:=m.hc;unfold Dg;refine ai (y:=.inl ()) ?_ ?_
 ·refine ai m.xR ?_;grind
 dsimp only;rw[ho (aa:a<h.length),bN];refine bQ.1 ?_;obtain⟨e,x⟩:=cB A;obtain⟨j,v⟩:=cB B;have t:ao h (aP (a:Z))=Y (j:Z):=(by rw[bk aa,ho aa,v]);rw[t,x];refine bE (P:=λn=>(n=.inl ()/\∀c:X,e<=c->c<j->d.getD c 0≠k)\/∃c:X,e<=c/\c<j/\d.getD c 0=k/\n=.inr (i.getD c 0,())) ?_ ?_
 ·refine bO (j-e) (λl C=>C=(((e+l:X):Z),())/\∀c:X,e<=c->c<e+l->d.getD c 0≠k) ⟨bn,λc r o=>absurd o aa⟩ ?_ ?_
  ·rintro l _ H ⟨rfl,q⟩;dsimp only;rw[bN,aY (aK (aa:((e+l:X):Z)<(j:Z)))];refine bz (ho aa) ?_;by_cases s:d.getD (e+l) 0=k
   ·rw[aY (by grind)];refine bz (ho aa) (bu.2 ?_);grind
   rw[a1 (by grind),bk aa];grind [cl,bu]
  rintro _ ⟨rfl,q⟩;dsimp only;rw[bN,a1 (aI (aa:¬(((e+(j-e):X):Z)<(j:Z))))];grind [bu]
 rintro n (⟨rfl,q⟩|⟨c,r,o,s,rfl⟩)
 ·grind [NW,ad8,bu]
 refine bu.2 ?_;have z:=((NW g p).2 ⟨c,aa,aa,bn⟩).1;have:=Rn u z;grind
theorem abH (y:a<=10000) (z:d.length<=1000000):Dp (d,(a:Z),())=Y (open Classical in decide (gp d a),()):=by
 classical
 unfold Dp;dsimp only;by_cases n:d.length=a
 ·rw[a1 (by grind)];refine ai (h9 aa) ?_;refine bQ.1 ?_;refine bE (P:=λp=>(p=.inl ()/\gp d a)\/(p=.inr (bq,())/\¬gp d a)) ?_ ?_
  ·refine bO a (λb t=>t=((b:Z),aB a (λc=>br ((c:Z)∈d.take b)),())/\(∀e∈d.take b,0<=e/\e<(a:Z))/\(d.take b).Nodup) ?_ ?_ ?_
   ·grind [jb]
   ·rintro b _ x ⟨rfl,h,i⟩;dsimp only;rw[aY (aK (aa:(b:Z)<(a:Z))),e3 (aa:b<d.length)];have o:d[b]'(by omega)∈d:=b7 _
    have r:d.take (b+1)=d.take b++[d[b]'(by omega)]:=by simp_all
    have j:∀e,e∈d.take (b+1)↔e∈d.take b\/e=d[b]'(by omega):=λe=>by rw[r,hX,gd]
    have q:(d.take (b+1)).Sublist d:=akV _ _;generalize B:d[b]'(by omega)=c at*
    simp only[aC];by_cases v:c<0
    ·rw[a1 (show(br (c<0)==bq)=bq by grind)];refine bu.2 (.inr ⟨bn,λg=>?_⟩);have:=g.2.1 c o;omega
    rw[aY (show(br (c<0)==bq)=bp by grind)];by_cases w:c>=(a:Z)
    ·rw[a1 (show(br (c>=(a:Z))==bq)=bq by grind)];refine bu.2 (.inr ⟨bn,λg=>?_⟩);have:=g.2.1 c o;omega
    rw[aY (show(br (c>=(a:Z))==bq)=bp by grind)];obtain⟨k,rfl⟩:=fR (aa:0<=c);rw[js (by grind [cY]),lE];by_cases l:(k:Z)∈d.take b
    ·rw[aY (aK l)];refine bu.2 (.inr ⟨bn,λg=>?_⟩);have:=ana q g.2.2;grind
    rw[a1 (aI l)];simp only[aC];rw[lO (by grind [cY]),hA];refine bu.2 ⟨?_,?_,?_⟩
    ·rw[bk aa];have:aB a (eB (λc=>br ((c:Z)∈d.take b)) k bp)=aB a (λc=>br ((c:Z)∈d.take (b+1))):=by
      refine c9 λu A=>?_;by_cases m:u=k
      ·grind [gI,aK]
      rw[hb _ _ m];refine cx.2 ⟨λf=>(j _).2 (.inl f),λf=>((j _).1 f).resolve_right λf=>m aa⟩
     grind
    ·intro e s;rcases(j e).1 s with f|f
     ·grind
     omega
    grind
   rintro _ ⟨rfl,h,i⟩;dsimp only;rw[a1 (aI (aa:¬((a:Z)<(a:Z))))];rw[ch aa] at h i;exact bu.2 (.inl ⟨bn,n,h,i⟩)
  grind [bu,aK,aI]
 rw[aY (by grind),aI (λf=>n f.1)]
theorem abK (c:ji a b h d i) (g:w.length<=1000000):Dq (((a:Z),(b:Z),h,d,i,()),w,())=Y (open Classical in if gE a b h d i≠0 then gE a b h d i else if a≠b then 5 else if gp w a then 0 else 90,()):=by
 classical
 unfold Dq;refine ai c.xR ?_;dsimp only;have j:=c.hr;by_cases e:gE a b h d i=0
 ·rw[e,fX,aK bn,ax (ah2 bn)];by_cases f:a=b
  ·subst f;rw[fX,aK bn,ax (ah2 bn)];refine ai (abH aa g) ?_;grind
  grind
 grind
theorem abj (e:a<d.length) (g:d[a]=(b:Z)) (f:(b:Z)∉d.take a):hK d b=a:=by unfold hK;have c:d=d.take a++(d[a]::d.drop (a+1)):=(by rw[List.getElem_cons_drop,kp]);grind
theorem aa8 (B:a<=10000) (C:d.length<=1000000):Dx (d,(a:Z),())=Y (open Classical in if gp d a then(aB a (λb=>(hK d b:Z)),bp,()) else([],bq,())):=by
 classical
 unfold Dx;dsimp only;by_cases p:d.length=a
 ·rw[a1 (by grind)];refine ai (h9 aa) (ai (h9 aa) ?_);refine bQ.1 ?_;refine bE (P:=λo=>(o=.inl (aB a (λb=>(hK d b:Z)),())/\gp d a)\/(o=.inr ([],bq,())/\¬gp d a)) ?_ ?_
  ·refine bO a (λc x=>x=((c:Z),aB a (λb=>if(b:Z)∈d.take c then(hK d b:Z) else 0),aB a (λb=>br ((b:Z)∈d.take c)),())/\(∀g∈d.take c,0<=g/\g<(a:Z))/\(d.take c).Nodup) ?_ ?_ ?_
   ·grind [jb]
   ·rintro c _ A ⟨rfl,m,n⟩;dsimp only;rw[aY (aK (show(c:Z)<al d by grind)),e3 (aa:c<d.length)];have q:d[c]'(by omega)∈d:=b7 _
    have u:d.take (c+1)=d.take c++[d[c]'(by omega)]:=by simp_all
    have j:∀g,g∈d.take (c+1)↔g∈d.take c\/g=d[c]'(by omega):=λg=>by rw[u,hX,gd]
    have t:(d.take (c+1)).Sublist d:=akV _ _;have s:∀f:X,d[c]'(by omega)=(f:Z)->(f:Z)∉d.take c->hK d f=c:=λf=>abj aa
    generalize r:d[c]'(by omega)=b at*
    simp only[aC];by_cases y:b<0
    ·rw[a1 (show(br (b<0)==bq)=bq by grind)];refine bu.2 (.inr ⟨bn,λh=>?_⟩);have:=h.2.1 b q;omega
    rw[aY (show(br (b<0)==bq)=bp by grind)];by_cases z:b>=(a:Z)
    ·rw[a1 (show(br (b>=(a:Z))==bq)=bq by grind)];refine bu.2 (.inr ⟨bn,λh=>?_⟩);have:=h.2.1 b q;omega
    rw[aY (show(br (b>=(a:Z))==bq)=bp by grind)];obtain⟨f,rfl⟩:=fR (aa:0<=b);rw[js (by grind [cY]),lE];by_cases l:(f:Z)∈d.take c
    ·simp only[aC];rw[aY (aK l)];refine bu.2 (.inr ⟨bn,λh=>?_⟩);have:=ana t h.2.2;grind
    simp only[aC];rw[a1 (aI l)];simp only[aC];rw[lO (by grind [cY]),hA,lO (by grind [cY]),hA];refine bu.2 ⟨?_,?_,?_⟩
    ·rw[bk aa];have:aB a (eB (λb=>br ((b:Z)∈d.take c)) f bp)=aB a (λb=>br ((b:Z)∈d.take (c+1))):=by
      refine c9 λk v=>?_;by_cases i:k=f
      ·grind [gI,aK]
      rw[hb _ _ i];refine cx.2 ⟨λe=>(j _).2 (.inl e),λe=>((j _).1 e).resolve_right λe=>i aa⟩
     rw[this];have:aB a (eB (λb=>if(b:Z)∈d.take c then(hK d b:Z) else 0) f (c:Z))=aB a (λb=>if(b:Z)∈d.take (c+1) then(hK d b:Z) else 0):=by
      refine c9 λk v=>?_;by_cases i:k=f
      ·subst i;rw[gI,au ((j _).2 (.inr bn)),s k bn l]
      rw[hb _ _ i];have:(k:Z)∈d.take (c+1)↔(k:Z)∈d.take c:=⟨λe=>((j _).1 e).resolve_right λe=>i aa,λe=>(j _).2 (.inl e)⟩;simp_all
     grind
    ·intro g w;rcases(j g).1 w with e|e
     ·grind
     omega
    grind [List.nodup_append,ah4]
   rintro _ ⟨rfl,m,n⟩;dsimp only;rw[a1 (aI (show¬((a:Z)<al d) by grind))];rw[ch aa] at m n|-;have h:gp d a:=⟨p,m,n⟩;refine bu.2 (.inl ⟨?_,h⟩);have:aB a (λb=>if(b:Z)∈d then(hK d b:Z) else 0)=aB a (λb=>(hK d b:Z)):=c9 λb r=>ca (h.mem r);grind
  rintro o (⟨rfl,e⟩|⟨rfl,e⟩)
  ·simp_all [au,bu]
  simp_all [bu,ax]
 rw[aY (by grind),ax (λe=>p e.1)]
def Fi (a b:X) (d c e f:ahZ):Z:=open Classical in if gE a b d c e≠0 then gE a b d c e else if a≠b then 5 else if gp f a then 0 else 90
theorem QN (c:Fi a b i d w h=0):gE a b i d w=0/\a=b/\gp h a:=by unfold Fi at c;grind
def l7 (a:X) (E:bm cW) (b:ahZ):ew:=jI (j1 (j0 a (jK E)) b)
theorem HL (b:X) (c:X->X->bA):∀a∈j0 b c,a.length<=b:=by intro a d;unfold j0 aB at d;grind [air,fJ]
theorem zV (a:X) (b:X->X->bA):(j0 a b).length=a:=cY _ _
theorem Vt (c:X) (E:bm cW):j0 c (jK E)=jI (h8 c (lN E)):=by rw[MR];have:(λa b=>a !=b&&(lN E a b||lN E b a))=jK E:=(by grind [Nm]);grind
theorem PD (e:a<=12) {E:bm cW} (b:gp d a):mC (j0 a (jK E)) d=0:=by unfold mC;have c:iy (j0 a (jK E))=0:=qQ.2 ⟨by grind [zV],by grind [HG,Vt]⟩;rw[ax (ah2 c),ax (ah2 (by rw[zV];exact b.1)),zV,au b]
theorem R6 (e:a<=12) {E:bm cW} (b:gp d a):y1 ((j0 a (jK E),()),d,())=Y ((l7 a E d,()),0,()):=by rw[R5 (λf c=>by have:=HL a _ f c;omega) d (λ_ _=>by grind [zV]) (by rw[b.1];omega),au (PD e b)];rfl
def PS (c:a<=12) {E:bm cW} (e:gp d a):q3 ((j0 a (jK E),()),d,())=Y ((l7 a E d,()),0,()):=by rw[Jw (λf b=>by have:=HL a _ f b;omega) d,au (PD c e)];rfl
def DZ {E:bm cW} (b:gp d a):(l7 a E d).length=a:=by unfold l7;rw[Vi,xj,b.1]
def zX (a:X) (E:bm cW) (b:ahZ):fk (l7 a E b):=HG _
def VA (f:a<=12) {E:bm cW} (e:gp d a):∀b∈l7 a E d,b.length<4611686018427387904:=λb c=>by have:=Vj _ b c;rw[xj,e.1] at this;omega
def abF (c:mK a h d i) (k:ji a a h d i) (e:gE a a h d i=0) (u:gp w a):Do (((a:Z),(a:Z),h,d,i,()),w,())=Y ((l7 a (g3 (c6 h d i a)) w,()),()):=by have b:=(jG.1 e).1;have n:=(jG.1 e).2;have m:=q9 b a (bc _);have o:=q8 b;have v:=c.el;have t:=c.xH;have p:=rc b k.hw;have q:=rc b (DN n);unfold Do;refine ai (Jm c k e) ?_;have l:=xA m;have j:=xz o;have s:=JO (rows:=a) (c3:=a) (E:=g3 (c6 h d i a)) aa aa aa (λg f=>p g (hq.1 f).1);have r:=Gz l j (λg f=>q g (hq.1 f).1);have:=PR s r;rw[Ho l j] at this;refine ai this ?_;exact ai (PS (eD t ab) u) rfl
def RS (f:mK a h d i) (r:ji a a h d i) (j:gE a a h d i=0):yZ (ru a a (g3 (c6 h d i a)),())=Y ((j0 a (jK (g3 (c6 h d i a))),()),0,()):=by have b:=(jG.1 j).1;have m:=(jG.1 j).2;have l:=q9 b a (bc _);have n:=q8 b;have t:=f.el;have u:=f.xH;have o:=rc b r.hw;have p:=rc b (DN m);have k:=xA l;have g:=xz n;have s:=JO (rows:=a) (c3:=a) (E:=g3 (c6 h d i a)) aa aa aa (λe c=>o e (hq.1 c).1);have q:=Gz k g (λe c=>p e (hq.1 c).1);have:=RQ s q;rw[Ho k g] at this;exact this
def Hi:fL:=(bq,((bq,([],())),((0:Z),())))
def T7:Hi=az (Y 0):=by rw[hz];rfl
def Oy:a6 0=Y 0:=by decide
theorem NS {j:Type}:∀(i:bm (Z×j)) (c:Z) (d:j) (b:Z),gk (kD i c d) b=if b=c then Y d else gk i b
 |[],c,d,b=>by
  show(if c=b then Y d else bo)=_;by_cases e:b=c
  ·rw[au e,au e.symm]
  rw[ax e,ax (λf=>e f.symm)];rfl
 |(a,u)::r,c,d,b=>by
  unfold kD;by_cases g:c<a
  ·rw[au g];show(if c=b then Y d else gk ((a,u)::r) b)=_;grind
  rw[ax g];by_cases h:c=a
  ·rw[au h];show(if c=b then Y d else gk r b)=_;by_cases e:b=c
   ·rw[au e,au e.symm]
   rw[ax e,ax (λf=>e f.symm)];show _=(if a=b then Y u else gk r b);grind
  rw[ax h];show(if a=b then Y u else gk (kD r c d) b)=_;rw[NS r c d b];show _=if b=c then Y d else(if a=b then Y u else gk r b)
  grind
abbrev nZ:=bv (bm (Z×fL)×X)
variable{z:bm nZ}
def og (a b:Z):Z:=if b>a then b else a
def nD (a b:Z):Z:=if b<a then b else a
def jY (E:bm cW) (a:ahZ) (b c:X):ahT:=a6 (nR E (og (a.getD b 0) (a.getD c 0)) (nD (a.getD b 0) (a.getD c 0)))
theorem Uq (E:bm cW) (a:ahZ) (b c:X):jY E a b c=jY E a c b:=by grind [og,nD,jY]
structure lr (n:X) (o:ahZ) (D:bm cW) (M:bm nZ):Prop where
 len:M.length=n
 get:∀p,p<n->∃l c,M[p]?=Y (Y (l,c))/\∀q,q<n->p<=q->(gk l (q:Z)).getD Hi=az (jY D o p q)
def lr.nil:lr a d [] (aB a λ_=>Y ([],0)) where
 len:=cY _ _
 get:=λc b=>⟨[],0,jl b,λe _ _=>by
  show Hi=az (a6 0);rw[Oy,T7]⟩
theorem EQ (c:gp d b) (e:a<b):d.getD a 0=(nJ d a:Z)/\nJ d a<b:=by have f:a<d.length:=(by rw[c.1];exact e);have:=c.2.1 d[a] (cR f);grind [kc,nJ]
theorem abk (c:gp d b) {e:X} (j:e<b) (i:a<b) (n:a<=e) (g:f<b) (h:q<b) (o:f<=q):(nD (hK d e:Z) (hK d a:Z)=(f:Z)/\og (hK d e:Z) (hK d a:Z)=(q:Z))↔(e:Z)=og (d.getD f 0) (d.getD q 0)/\(a:Z)=nD (d.getD f 0) (d.getD q 0):=by
 obtain⟨k,p⟩:=EQ c g;obtain⟨aw,s⟩:=EQ c h;obtain⟨u,v⟩:=c.pos j;obtain⟨l,m⟩:=c.pos i;have r:=c.PH g;have t:=c.PH h;rw[k,aw];constructor
 ·grind [aq,og,nD,hK]
 grind [nJ,nD,og,aq]
theorem lr.skip (b:lr a d s z) (j:(s++[t]).Pairwise hh) (n:t.1<t.2.1):lr a d (s++[t]) z where
 len:=b.len
 get:=λl g=>by obtain⟨k,c,e,f⟩:=b.get l g;refine⟨k,c,e,λm i h=>?_⟩;rw[f m i h];unfold jY;rw[Ro j,ax];grind [nD,og]
theorem lr.add (y:gp d q) (h:lr q d s z) {i:X} (B:(s++[((b:Z),(a:Z),c,())]).Pairwise hh) (A:b<q) (u:a<q) (v:a<=b) (H:(f:Z)=nD (hK d b:Z) (hK d a:Z)) (G:(i:Z)=og (hK d b:Z) (hK d a:Z)) {m:bm (Z×fL)} {C D:X} (w:z[f]?=Y (Y (m,C))):lr q d (s++[((b:Z),(a:Z),c,())]) (z.set f (Y (kD m (i:Z) (az (a6 c)),D))) where
 len:=by rw[aj5,h.len]
 get:=λg j=>by
  have x:f<z.length:=(hF.1 w).1;have E:∀e,e<q->g<=e->az (jY (s++[((b:Z),(a:Z),c,())]) d g e)=if f=g/\i=e then az (a6 c) else az (jY s d g e):=by intro e l k;have:=abk y A u v j l k;unfold jY;rw[Ro B];grind
  by_cases o:g=f
  ·subst o;refine⟨_,_,List.getElem?_set_self x,λe l k=>?_⟩;rw[NS,E e l k];by_cases p:i=e
   ·grind
   rw[ax aa,ax (λh=>p h.2)];obtain⟨F,n,r,t⟩:=h.get g j;grind
  obtain⟨F,n,r,t⟩:=h.get g j;grind
theorem abA (k:ji a a i h w) (j:gE a a i h w=0) (e:gp d a) (o:b<a) (p:f<a):wZ (((a:Z),(a:Z),i,h,w,()),d,(b:Z),(f:Z),())=Y (az (jY (c6 i h w a) d b f),()):=by obtain⟨r,s⟩:=EQ e o;obtain⟨aw,t⟩:=EQ e p;have q:=e.1;have l:=rc (jG.1 j).1 k.hw;unfold wZ;refine ai (ho aa) (ai (ho aa) ?_);obtain⟨c,m,n⟩:∃c:X,nD (d.getD b 0) (d.getD f 0)=(c:Z)/\c<a:=(by grind [nD]);have g:=abB k j (og (d.getD b 0) (d.getD f 0)) n;rw[<-m] at g;refine ai g ?_;dsimp only;refine ai (k9 (ad6 l _ _)) rfl
theorem RY (x:mK a i h d) (p:ji a a i h d) (z:gE a a i h d=0) (q:gp w a):∃c,lr a w (c6 i h d a) c/\w6 (((a:Z),(a:Z),i,h,d,()),w,())=Y (Y ((a:Z),(l7 a (g3 (c6 i h d a)) w,()),c,()),0,()):=by
 have Q:=x.xH;have j:=(jG.1 z).1;have ap:=q9 j a (bc _);have a0:=q8 j;have ce:=q.1;have a3:=rc j p.hw;suffices D:ae (w6 (((a:Z),(a:Z),i,h,d,()),w,())) λf=>∃c,lr a w (c6 i h d a) c/\f=(Y ((a:Z),(l7 a (g3 (c6 i h d a)) w,()),c,()),0,()) by obtain⟨f,am,c,an,rfl⟩:=D;grind
 unfold w6;refine bz p.check ?_;dsimp only;rw[a1 (by grind),a1 (by grind)];refine bz (aa8 aa aa) ?_;rw[ca q];dsimp only;rw[Bool.not_true,bP];refine bz (RW x p z) (bz (RS x p z) (bz (R6 (cz Q ab) q) ?_));dsimp only;generalize av:l7 a (g3 (c6 i h d a)) w=n;refine bz (h9 aa) ?_;generalize O:(((a:Z),(a:Z),i,h,d,()):e0)=J;refine bE (P:=λf=>f=(J,((a:Z),(n,()),aB a (λ_=>(Y ([],0):nZ)),()),())) ?_ ?_
 ·refine bO a (λm r=>r=((m:Z),J,((a:Z),(n,()),aB a (λl=>if l<m then(Y ([],0):nZ) else bo),()),())) ?_ ?_ ?_
  ·rw[jb];rfl
  ·rintro m _ M rfl;dsimp only;rw[aY (aK (show(m:Z)<al (bJ a (bo:nZ)) by grind)),bk aa];refine bz (eS (by grind [cY])) ?_;rw[gV M,hA];refine bu.2 ?_;have:aB a (eB (λl=>if l<m then(Y ([],0):nZ) else bo) m (Y ([],0)))=aB a (λl=>if l<m+1 then(Y ([],0):nZ) else bo):=by
    refine c9 λl B=>?_;by_cases v:l=m
    ·simp_all [gI,au]
    rw[hb _ _ v];grind
   grind
  rintro _ rfl;dsimp only;rw[a1 (aI (show¬((a:Z)<al (bJ a (bo:nZ))) by grind))];have:aB a (λl=>if l<a then(Y ([],0):nZ) else bo)=aB a (λ_=>(Y ([],0):nZ)):=c9 λl B=>ca B;grind [bu]
 rintro _ rfl;dsimp only;refine bE (P:=λf=>∃c,lr a w (c6 i h d a) c/\f=(((a:Z),(n,()),c,()),())) ?_ (by grind [bu]);subst O;refine bO a (λb r=>∃c,lr a w (c6 i h d b) c/\r=((b:Z),((a:Z),(a:Z),i,h,d,()),((a:Z),(n,()),c,()),())) ⟨_,lr.nil,bn⟩ ?_ ?_
 ·rintro b _ t ⟨c,o,rfl⟩;have u:=j.len;obtain⟨e,N⟩:=cB (j.pos b aa);obtain⟨k,G⟩:=cB (j.pos (b+1) aa);have bl:k<=h.length:=(by have:=j.p5 (b+1) aa;omega);have bx:e<=k:=(by have:=j.mono b t;omega);have B:=j.val;have a4:=p.hi;dsimp only;rw[aY (aK (aa:(b:Z)<(a:Z))),bk aa];refine bz (y:=(e:Z)) (by rw[ho aa,N]) ?_;have R:c6 i h d (b+1)=c6 i h d b++iP h d (b:Z) e (k-e):=by
   grind [c6]
  have T:(c6 i h d (b+1)).Pairwise hh:=q9 j (b+1) aa;refine bE (P:=λf=>∃c,lr a w (c6 i h d (b+1)) c/\f=(((a:Z),(a:Z),i,h,d,()),((a:Z),(n,()),c,()),())) ?_ (by grind [bu]);refine bO (k-e) (λg r=>∃c,lr a w (c6 i h d b++iP h d (b:Z) e g) c/\r=(((e+g:X):Z),((a:Z),(a:Z),i,h,d,()),((a:Z),(n,()),c,()),())) ⟨c,by grind [iP],bn⟩ ?_ ?_
  ·rintro g _ ci ⟨c,o,rfl⟩;dsimp only;refine bz (y:=(k:Z)) (by rw[ho aa,G]) ?_;rw[aY (aK (aa:((e+g:X):Z)<(k:Z)))];have S:=j.rng b (e+g) t aa aa;obtain⟨f,A⟩:=cB S.1;have I:(c6 i h d b++iP h d (b:Z) e g++[((f:Z),(b:Z),d.getD (e+g) 0,())]).Pairwise hh:=by
    refine am7 ?_ T;rw[R,iY];refine anE (anF _) ?_;have:iP h d (b:Z) e g++[((f:Z),(b:Z),d.getD (e+g) 0,())]=iP h d (b:Z) e (g+1):=(by rw[iP,A]);rw[this,Hn,Hn,<-DK (k-e) (g+1) _ aa];grind
   have L:c6 i h d b++iP h d (b:Z) e (g+1)=c6 i h d b++iP h d (b:Z) e g++[((f:Z),(b:Z),d.getD (e+g) 0,())]:=(by rw[iY,iP,A]);rw[L];refine bE (P:=λad=>∃c,lr a w (c6 i h d b++iP h d (b:Z) e g++[((f:Z),(b:Z),d.getD (e+g) 0,())]) c/\ad=(((a:Z),(a:Z),i,h,d,()),((a:Z),(n,()),c,()),())) ?_ ?_
   ·refine bz (y:=(f:Z)) (by rw[ho aa,A]) ?_;rw[cQ];refine ah9 (λv=>?_) (λv=>?_)
    ·have H:f<a:=aa;refine bz (by rw[e3 (by grind [cY]),lE]) (bz (by rw[e3 (by grind [cY]),lE]) ?_);obtain⟨s,E,K⟩:∃s:X,(s:Z)=nD (hK w f:Z) (hK w b:Z)/\s<a:=by
      have:=(q.pos H).1;have:=(q.pos t).1;unfold nD;split
      ·grind
      grind
     obtain⟨C,F⟩:∃C:X,(C:Z)=og (hK w f:Z) (hK w b:Z):=(by unfold og;grind);change ae ((bj c.length (nD (hK w f:Z) (hK w b:Z))).bind _) _;rw[<-E];refine bz (eS (by rw[o.len];omega)) ?_;refine bz (ho aa) ?_;refine bz (p7 (p.hw _ (by grind))) ?_;dsimp only;obtain⟨V,U,u,_⟩:=o.get s K;refine bz (gq u) ?_;change ae ((xC (Y (V,U)) (og (hK w f:Z) (hK w b:Z)) _).bind _) _;rw[<-F];refine bz bn ?_;rw[gq u];exact bu.2 ⟨_,o.add q I H t aa E F u,bn⟩
    exact bu.2 ⟨c,o.skip I (by grind),bn⟩
   rintro _ ⟨c,D,rfl⟩;dsimp only;rw[bk aa];grind [bu]
  rintro _ ⟨c,o,rfl⟩;dsimp only;refine bz (y:=(k:Z)) (by rw[ho aa,G]) ?_;rw[a1 (aI (aa:¬((e+(k-e):X):Z)<(k:Z)))];grind [bu]
 rintro _ ⟨c,o,rfl⟩;dsimp only;rw[a1 (aI (aa:¬((a:Z)<(a:Z))))];grind [bu]
theorem acF {E:bm cW} (h:lr a d E z) (q:b<a) (r:f<a):w5 (Y ((a:Z),(l,()),z,()),(b:Z),(f:Z),())=Y (az (jY E d b f),()):=by
 unfold w5;dsimp only;rw[bN];have s:∀c e:X,c<a->e<a->c<=e->((ao z (c:Z)).bind λo=>Y (((mB (α:=fL) o (e:Z)).getD (bq,((bq,([],())),((0:Z),())))),()))=Y (az (jY E d c e),()):=(by intro c e k n m;obtain⟨t,p,i,j⟩:=h.get c k;refine ai (gN i) ?_;have:=j e n m;rw[<-this];rfl);by_cases g:(f:Z)<(b:Z)
 ·rw[au g,ax aa,Uq];grind
 grind
theorem Ez (a:bd c≠2047):∃d,a6 c=Y d:=by
 have aq:=zN c;have g:=uR c;unfold a6;rw[ax a];unfold hJ;generalize f:(if c<9223372036854775808 then if bd c=0 then fy c else fy c+4503599627370496 else-(if bd c=0 then fy c else fy c+4503599627370496))=b;have e:aN b.natAbs<=53:=gj.2 (by
  omega)
 split
 ·grind
 rw[ax aa];grind
def adF (a:X->X->Z) (c d b:X):ahT:=c7 (cU (a6 (a b c)) (a6 (a b d)))
def JI (c:X->X->ahT) (d:X->X->Z) (a b:X):ahT:=adn (c b a::(bI a).map (adF d b a))
def TC (b:X->X->ahT) (e:X->X->bA) (d:X->X->Z) (a c:X):Z:=
 if c=a then E7 (JI b d a a) 0 else if e a c=bp then gr (JI b d a c) (a6 (E7 (JI b d a a) 0)) 0 else 0
def Ip (a:X->X->ahT) (b:X->X->bA):X->X->X->Z
 |0=>λ_ _=>0
 |j+1=>λd c=>if d=j then TC a b (Ip a b j) j c else Ip a b j d c
def u6 (b:X->X->ahT) (d:X->X->bA) (a c:X):Z:=Ip b d (a+1) a c
theorem V5 (a:eK c):Dm (c,())=Y (br (k5 c=0),()):=by unfold Dm;have e:k5 c=0↔c=0\/c=9223372036854775808:=(by unfold k5 bd fy;obtain⟨b,d⟩:=a;omega);grind
def PK (a:eK c) (b:eK j):zE (c,j,())=Y (az (cU (a6 c) (a6 j)),()):=by unfold zE;refine ai (k9 a) (ai (k9 b) ?_);exact ai (kI (gO _) (gO _)) rfl
def Jl {a:ahT} (b:cP N) (c:cP a):wY (az N,az a,())=Y (gr N a 0,()):=by unfold wY;exact ai (acg b c) rfl
theorem Ey {k:X} (b:c.natAbs=2*a+1):cG (c*2^k)=c/\e7 (c*2^k)=(k:Z)-65536:=by have d:(c*2^k).natAbs=(2*a+1)*2^k:=(by rw[jo,b]);have e:=x3 d;unfold cG e7;grind [alS,Int.pow_pos]
def PJ (b:c≠0) (a:X):c*2^a≠0:=al1 b (by have:(0:Z)<2^a:=mM ab;omega)
theorem N2 (e:c.natAbs=2*f+1) (o:j+a+65536=(b:Z)) (m:-65536<=j) (n:j+a+aN c.natAbs<=65536):hJ (c*2^a) j=Y (c*2^b):=by have l:c≠0:=aa;have g:(c*2^a).natAbs=(2*f+1)*2^a:=(by rw[jo,e]);have h:=x3 g;have i:aN (c*2^a).natAbs=aN c.natAbs+a:=(by grind [jo,oU]);unfold hJ;rw[ax (PJ l a),h,i,ax aa];obtain⟨d,k⟩:=fR (aa:0<=j+65536);rw[k];show Y (rI (c*2^a) (d:Z))=_;rw[pf,j5,<-lU,(aa:a+d=b)]
def Hv {m:Z} {a t k:X} (d:c=m*2^t) (b:m.natAbs=2*a+1) (f:(t:Z)+65536=(k:Z)) (e:t+aN m.natAbs<=65536):jn c=Y (m*2^k):=by unfold jn;rw[d];exact N2 b aa ab aa
def DH {a:X} (e:c.natAbs=2*a+1) (f:0<c) (d:Z):kJ (Y (c*2^b)) d=lK bq c.natAbs ((b:Z)-65536) bq d:=by obtain⟨g,h⟩:=Ey (k:=b) e;show qe (c*2^b) d=_;unfold qe;rw[ax (PJ aa b),g,h,aI];have:(0:Z)<c*2^b:=qs f (mM ab);omega
theorem UN {a:X} (d:c.natAbs=2*a+1) (e:0<c):E7 (Y (c*2^b)) 0=Qd (Qc c.natAbs ((b:Z)-65536)) c.natAbs ((b:Z)-65536) 0:=by obtain⟨f,g⟩:=Ey (k:=b) d;have:(0:Z)<c*2^b:=qs e (mM ab);show(if c*2^b<0 then(9221120237041090560:Z) else if c*2^b=0 then 0 else Jy (c*2^b) 0)=_;rw[ax aa,ax aa];grind [Jy]
theorem UM {a b:X} (g:c.natAbs=2*a+1) (h:0<c) (d:j.natAbs=2*b+1) (e:0<j):gr (Y (c*2^f)) (Y (j*2^q)) 0=rE (m2 c.natAbs j.natAbs) c.natAbs j.natAbs bq ((f:Z)-65536-((q:Z)-65536)) 0:=by obtain⟨i,l⟩:=Ey (k:=f) g;obtain⟨m,n⟩:=Ey (k:=q) d;have o:(0:Z)<c*2^f:=qs h (mM ab);have p:(0:Z)<j*2^q:=qs e (mM ab);show(if j*2^q=0 then(9221120237041090560:Z) else if c*2^f=0 then 0 else vo (c*2^f) (j*2^q) 0)=_;rw[ax aa,ax aa];grind [aI,vo]
def DG {a t:X} (d:j.natAbs=2*a+1) (g:(if c<9223372036854775808 then if bd c=0 then fy c else fy c+4503599627370496 else-(if bd c=0 then fy c else fy c+4503599627370496))=j*2^t) (f:bd c≠2047) (h:(if bd c=0 then-1074 else bd c-1075)+(t:Z)+65536=(b:Z)) (e:(if bd c=0 then-1074 else bd c-1075)+(t:Z)+aN j.natAbs<=65536):a6 c=Y (j*2^b):=by unfold a6;rw[ax f,g];refine N2 d h ?_ e;have:=zN c;omega
def f4:kJ (jn 4) 0=4616189618054758400:=by rw[Hv (m:=1) (a:=0) (t:=2) (k:=65538) ab ab ab ab,DH (a:=0) ab ab];decide
def f2:kJ (jn 2) 0=4611686018427387904:=by rw[Hv (m:=1) (a:=0) (t:=1) (k:=65537) ab ab ab ab,DH (a:=0) ab ab];decide
def f5:kJ (jn 5) 0=4617315517961601024:=by rw[Hv (m:=5) (a:=2) (t:=0) (k:=65536) ab ab ab ab,DH (a:=2) ab ab];decide
def v4:a6 4616189618054758400=Y (1*2^65538):=DG (a:=0) (t:=52) ab ab ab ab ab
def fw:a6 4611686018427387904=Y (1*2^65537):=DG (a:=0) (t:=52) ab ab ab ab ab
def Kg:a6 4617315517961601024=Y (5*2^65536):=DG (a:=2) (t:=50) ab ab ab ab ab
def v1:a6 4607182418800017408=Y (1*2^65536):=DG (a:=0) (t:=52) ab ab ab ab ab
def aJ:E7 (Y (1*2^65538)) 0=4611686018427387904:=by rw[UN (a:=0) ab ab];decide+kernel
def aw:gr (Y (1*2^65537)) (Y (1*2^65537)) 0=4607182418800017408:=by rw[UM (a:=0) (b:=0) ab ab ab ab];decide
theorem UK:gp [0,1] 2:=⟨bn,λb a=>by
 grind,ab⟩
def Hu:ew:=[[1],[0]]
theorem RP (a b:ahZ) (c:a.length<4611686018427387904):zl (a,b,())=Y (a==b,()):=FM a b c
def j6 (g f e:X) (h a d:ahZ):Prop:=∃c,c<=a.length/\gz g f h (a.take c) (d.take c)/\d.length=a.length/\(∀b,c<=b->b<a.length->0<=a.getD b 0/\a.getD b 0<(e:Z))/\(∀b,c<b->b<a.length->a.getD (b-1) 0<a.getD b 0)
def gz.open (c:gz b a h d i):j6 b a 0 h d i:=
 ⟨d.length,bc _,by rw[fG (bc _),fG (Nat.le_of_eq c.val)];exact c,c.val,λg f e=>absurd e aa,λg f e=>absurd e aa⟩
theorem j6.skip (g:j6 f b a h d i):j6 f b (a+1) h d i:=by obtain⟨o,j,k,l,m,n⟩:=g;exact⟨o,j,k,l,λp c e=>by have:=m p c e;omega,n⟩
def zW (b:a<d.length):(d++[c]).getD a 0=d.getD a 0:=by rw[lX,qx b,<-lX]
def HM:(d++[c]).getD d.length 0=c:=by rw[lX,pz (bc _)];simp
theorem j6.add (l:j6 f b a h d i) (q:Z):j6 f b (a+1) h (d++[(a:Z)]) (i++[q]):=by
 obtain⟨p,m,n,r,k,o⟩:=l;refine⟨p,by simp;omega,?_,by simp;omega,λe g j=>?_,λe g j=>?_⟩
 ·rw[tO m,tO aa];exact n
 ·rw[jQ,pB] at j;rcases cO e d.length with c|c
  ·rw[zW c];have:=k e g c;omega
  obtain rfl:e=d.length:=aa;rw[HM];omega
 rw[jQ,pB] at j;rcases cO e d.length with c|c
 ·rw[zW c,zW aa];exact o e g c
 obtain rfl:e=d.length:=aa;rw[HM,zW aa];exact(k (d.length-1) aa aa).2
def HN (c:a<b):(d.take b).getD a 0=d.getD a 0:=by rw[lX,rZ c,<-lX]
def j6.close (s:j6 b a b h d i):gz b (a+1) (h++[(d.length:Z)]) d i:=by
 obtain⟨x,o,k,t,u,v⟩:=s;have p:=k.len;have q:=k.last;rw[fU,hG o] at q;have n:(h++[(d.length:Z)]).getD (a+1) 0=(d.length:Z):=(by rw[<-p];exact HM);have e:∀c,c<=a->(h++[(d.length:Z)]).getD c 0=h.getD c 0:=λc l=>zW aa;have r:∀c,c<=a->h.getD c 0<=(x:Z):=λc l=>(by have:=k.p5 c l;rw[fU,hG o] at this;exact this);refine⟨by simp[p],by rw[e 0 aa];exact k.first,λc l=>?_,n,t,λc m l g j=>?_,λc m l g j=>?_⟩
 ·rcases cO c a with f|f
  ·rw[e c aa,e (c+1) aa];exact k.mono c f
  obtain rfl:c=a:=aa;rw[e c aa,n,q];omega
 ·rcases cO c a with f|f
  ·rw[e c aa] at g;rw[e (c+1) aa] at j;have w:=r (c+1) aa;have:=k.rng c m f g j;rw[HN aa] at this;exact this
  obtain rfl:c=a:=aa;rw[e c aa] at g;rw[n] at j;exact u m aa aa
 rcases cO c a with f|f
 ·rw[e c aa] at g;rw[e (c+1) aa] at j;have w:=r (c+1) aa;have:=k.asc c m f g j;rw[HN aa,HN aa] at this;exact this
 obtain rfl:c=a:=aa;rw[e c aa] at g;rw[n] at j;exact v m aa aa
def gz.empty (d:X):gz d 0 [0] [] []:=⟨bn,bn,λb a=>absurd a aa,bn,bn,λb c a=>absurd a aa,λb c a=>absurd a aa⟩
structure FJ (P:Z->Prop) (rows c3:X) (m:e0):Prop where
 ex:∃st mV qn,m=((rows:Z),(c3:Z),st,mV,qn,())/\gz rows c3 st mV qn/\(∀v∈qn,P v)/\mV.length<=c3*rows
abbrev KA:=FJ eK
def KA.ac0 (g:b<=6) (f:a<=6) (c:gz b a i d h) (e:∀j∈h,eK j) (k:d.length<=a*b):ji b a i d h:=by have l:a*b<=6*6:=mR f g;exact⟨aa,aa,aa,by rw[c.len];omega,by rw[c.val];omega,e⟩
def RR {P:Z->Prop} (y:∀o,eK o->ae (uA (o,c,())) λE=>P E.1) (B:d.length<=9223372036854775807) (C:a<=6) (z:b<=6):ae (CT (d,(a:Z),(b:Z),c,())) λl=>FJ P a b l.1:=by
 have L:b*a<=6*6:=akW z C;unfold CT;dsimp only;refine bE (P:=λl=>FJ P a b l.2.1) ?_ (by rintro⟨F,G,_⟩ q;exact bu.2 q);refine bO b (λg r=>∃h e f,r=((g:Z),((0:Z),((0:Z),([],([],([],()))))),((a:Z),(b:Z),h,e,f,()),())/\gz a g h e f/\(∀i∈f,P i)/\e.length<=g*a) ?_ ?_ ?_
 ·exact⟨[0],[],[],bn,gz.empty a,ac,ac⟩
 ·rintro g _ A ⟨h,e,f,rfl,t,x,I⟩;have K:g*a+a<=6*6:=by
   have:(g+1)*a<=b*a:=h5 _ A;rw[lu,lv] at this;omega
  dsimp only;rw[aY (aK (aa:(g:Z)<(b:Z))),bk aa];refine bE (P:=λl=>∃e f,l=(((0:Z),((0:Z),([],([],([],()))))),((a:Z),(b:Z),h,e,f,()),())/\j6 a g a h e f/\(∀i∈f,P i)/\e.length<=g*a+a) ?_ ?_
  ·refine bO a (λj r=>∃e f,r=((j:Z),((0:Z),((0:Z),([],([],([],()))))),((a:Z),(b:Z),h,e,f,()),())/\j6 a g j h e f/\(∀i∈f,P i)/\e.length<=g*a+j) ?_ ?_ ?_
   ·exact⟨e,f,bn,t.open,x,aa⟩
   ·rintro j _ J ⟨e,f,rfl,p,s,H⟩;have M:f.length=e.length:=by
     obtain⟨N,_,_,q,_⟩:=p;exact q
    dsimp only;rw[aY (aK (aa:(j:Z)<(a:Z))),bk aa];refine bE (P:=λl=>∃e f,l=(((0:Z),((0:Z),([],([],([],()))))),((a:Z),(b:Z),h,e,f,()),())/\j6 a g (j+1) h e f/\(∀i∈f,P i)/\e.length<=g*a+(j+1)) ?_ ?_
    ·refine bE (Kj d B _) ?_;rintro⟨D,_⟩ v;dsimp only at v|-;rw[tn ab ab,bN];unfold iC;rw[ca ab,bN,cQ];refine ah9 (λw=>?_) (λw=>?_)
     ·rw[da (by simp;omega),bN];refine bE (y D v) ?_;rintro⟨i,_⟩ u;dsimp only at u|-;rw[da (by simp;omega),bN];refine bu.2 ⟨_,_,bn,p.add i,λo n=>?_,by simp;omega⟩;rcases List.mem_append.1 n with n|n
      ·exact s o n
      obtain rfl:=gd.1 n;exact u
     exact bu.2 ⟨_,_,bn,p.skip,s,aa⟩
    rintro _ ⟨e,f,rfl,aw,k,m⟩;exact bu.2 ⟨e,f,bn,aw,k,m⟩
   rintro _ ⟨e,f,rfl,aw,k,m⟩;dsimp only;rw[a1 (aI (aa:¬((a:Z)<(a:Z))))];exact bu.2 ⟨e,f,bn,aw,k,m⟩
  rintro _ ⟨e,f,rfl,aw,k,m⟩;dsimp only;rw[da (by rw[t.len];simp;omega),bN];refine bu.2 ⟨_,_,_,bn,aw.close,k,by rw[Nat.add_mul,ak2];omega⟩
 rintro _ ⟨h,e,f,rfl,aw,k,m⟩;dsimp only;rw[a1 (aI (aa:¬((b:Z)<(b:Z))))];exact bu.2 ⟨h,e,f,bn,aw,k,m⟩
theorem RZ (j:d.length<=9223372036854775807) (r:a<=12):ae (CU (d,(a:Z),())) λc=>c.1.Perm ((bI a).map (λf:X=>(f:Z))):=by
 unfold CU;dsimp only;refine bE (P:=λc=>c.1.Perm ((bI a).map (λf:X=>(f:Z)))) ?_ (by grind [bu]);refine bO a (λe p=>∃b,p=(b,(e:Z),())/\b.Perm ((bI e).map (λf:X=>(f:Z)))) ⟨[],bn,akb _⟩ ?_ ?_
 ·rintro e _ q ⟨b,rfl,l⟩;have k:b.length=e:=(by have:=l.length_eq;grind);dsimp only;rw[aY (aK (aa:(e:Z)<(a:Z))),bk aa];refine bE (Kj d j _) ?_;rintro⟨i,_⟩ o;dsimp only at o|-;rw[tn ab ab,bN];refine bz (xG _ (n:=e+1) aa aa) ?_;have s:=Ai (ay (i/2^(1:Z).toNat)) (n:=e+1) aa;dsimp only;generalize o8 (ay (i/2^(1:Z).toNat)) (e+1)=c at*;refine bz (Fh aa) ?_;dsimp only;rw[da (by grind),bN,da (by grind),bN];have m:((gv (c:Z)).bind λg=>(Y b.length).bind λh=>(g9 g h b.length).map λ_=>(g,h))=Y (c,b.length):=by
   have:gv (c:Z)=Y c:=(by simp_all [au,fC,gv]);rw[this];show(g9 c b.length b.length).map _=_;unfold g9;grind
  refine bz m ?_;dsimp only;rw[da (by grind),bN];refine bu.2 ⟨_,bn,?_⟩;rw[ais,akT,cA];have t:b.take c++b.drop c=b:=ajw c b;grind
 rintro _ ⟨b,rfl,k⟩;simp_all [bu,a1,aI]
theorem Ew (a:X):gv (a:Z)=Y a:=by simp_all [au,fC,gv]
def adP (e:a*2^f=b*2^q) (h:0<a) (g:0<b):cT a+f=cT b+q/\aN a+f=aN b+q:=by have c:=b3 cT e;have d:=b3 aN e;rw[Ka aa,Ka g] at c;rw[oU aa,oU g] at d;exact⟨c,d⟩
theorem Of (a:j*c=O*2^65536) (q:fO O):cU (Y j) (Y c)=Y O:=by
 show hJ (cG j*cG c) (eI j+eI c)=Y O;have f:∀g:X,(2:Z)^g≠0:=λg=>(by have:(0:Z)<2^g:=mM ab;omega);by_cases b:j=0
 ·rw[b,pq] at a;rw[b,Ex,pq,(Int.mul_eq_zero.1 a.symm).resolve_right (f _)];rfl
 by_cases d:c=0
 ·rw[d,aj3] at a;rw[d,Ex,aj3,(Int.mul_eq_zero.1 a.symm).resolve_right (f _)];rfl
 have t:=rA j;have u:=rA c;have aP:=jr b;have s:=jr d;have w:=Ao.1 ⟨aa,Ou b⟩;have x:=Ao.1 ⟨aa,Ou d⟩;have o:cG j*cG c≠0:=al1 aP s;have k:cT (cG j*cG c).natAbs=0:=(by refine(Ao.2 ?_).2;rw[vT,Nat.mul_mod,w,x]);have aq:cG j*cG c*2^(cT j.natAbs+cT c.natAbs)=O*2^65536:=by
  rw[<-a,lU]
  conv=>rhs;rw[<-t,<-u]
  rw[j5,j5,Int.mul_left_comm (cG c)]
 have m:eI j=(cT j.natAbs:Z)-65536:=(by rw[eI,ax b];rfl);have n:eI c=(cT c.natAbs:Z)-65536:=(by rw[eI,ax d];rfl);rw[m,n];generalize cT j.natAbs=h at*;generalize cT c.natAbs=i at*;generalize cG j*cG c=A at*;have e:=b3 Int.natAbs aq;rw[jo,jo] at e;have r:0<O.natAbs:=abl e aa;obtain⟨l,y⟩:=adP e aa r;rw[k] at l;have z:aN O.natAbs<=131072:=q;unfold hJ;rw[ax o,k,ax aa];obtain⟨v,p⟩:=fR (aa:0<=(h:Z)-65536+((i:Z)-65536)+65536);rw[p,pf];congr 1;have:h+i=v+65536:=aa;rw[this,lU,<-j5] at aq;exact Int.mul_eq_mul_right_iff (f _)|>.1 aq
def j3 (a:Z):Z:=if a<9223372036854775808 then if bd a=0 then fy a else fy a+4503599627370496 else-(if bd a=0 then fy a else fy a+4503599627370496)
def kA (a:Z):Z:=if bd a=0 then-1074 else bd a-1075
def Ht (a:bd c≠2047):-1074<=kA c/\kA c<=971:=by have:=zN c;unfold kA;split<;>omega
def Ob (a:Z):aN (j3 a).natAbs<=53:=gj.2 (by
 have b:=uR a;have:(2:X)^53=9007199254740992:=ab;rw[this];unfold j3;split<;>split<;>omega)
def rB (b:bd c≠2047):a6 c=Y (j3 c*2^(kA c+65536).toNat):=by
 have h:=Ht b;have g:=Ob c;unfold a6;rw[ax b];change hJ (j3 c) (kA c)=_;generalize j3 c=f at*;generalize kA c=d at*;unfold hJ;by_cases a:f=0
 ·rw[au a,a,pq]
 rw[ax a,ax aa];obtain⟨i,e⟩:=fR (aa:0<=d+65536);rw[e,pf,fC]
def Pz {b:bA} (n:a<=9007199254740992) (o:-1074<=c) (m:4503599627370496<=a\/c=-1074) (d:bd (kG b a c 0)≠2047):j3 (kG b a c 0)*2^(kA (kG b a c 0)+65536).toNat=(if b then-(a:Z) else(a:Z))*2^(c+65536).toNat:=by
 have l:bd (p9 b 0)=2047:=(by cases b<;>decide);have j:∀(f k i:Z),bd f≠2047->j3 f=k->kA f=i->k*2^(i+65536).toNat=(if b then-(a:Z) else(a:Z))*2^(c+65536).toNat->j3 f*2^(kA f+65536).toNat=(if b then-(a:Z) else(a:Z))*2^(c+65536).toNat:=(by intro f k i _ h g e;rw[h,g];exact e);unfold kG at d|-;by_cases h:a<4503599627370496
 ·rw[au h] at d|-;obtain rfl:c=-1074:=aa;refine j _ (if b then-(a:Z) else(a:Z)) (-1074) d ?_ ?_ bn
  ·unfold j3 bd fy jd;cases b<;>simp<;>omega
  unfold kA bd jd;cases b<;>simp<;>omega
 rw[ax h] at d|-;by_cases g:a=9007199254740992
 ·rw[au g] at d|-;by_cases e:c+1+1075>=2047
  ·rw[au e] at d;exact absurd l d
  rw[ax e] at d|-;refine j _ (if b then-(4503599627370496:Z) else 4503599627370496) (c+1) d ?_ ?_ ?_
  ·unfold j3 bd fy jd;cases b<;>simp<;>omega
  ·unfold kA bd jd;cases b<;>simp<;>omega
  have aq:(c+1+65536).toNat=(c+65536).toNat+1:=aa;rw[aq,Int.pow_succ,g];generalize(2:Z)^(c+65536).toNat=p;cases b<;>simp<;>omega
 rw[ax g] at d|-;by_cases e:c+1075>=2047
 ·rw[au e] at d;exact absurd l d
 rw[ax e] at d|-;refine j _ (if b then-(a:Z) else(a:Z)) c d ?_ ?_ bn
 ·unfold j3 bd fy jd;cases b<;>simp<;>omega
 unfold kA bd jd;cases b<;>simp<;>omega
def AH (a b:X):(2:Z)^(a+b)=2^a*2^b:=lU 2 a b
def XS (b:-65536<=e7 c):c=cG c*2^(e7 c+65536).toNat:=by have a:=rA c;have:(e7 c+65536).toNat=cT c.natAbs:=(by unfold e7;omega);rw[this,a]
def UG (a:Z):-65536<=e7 a:=by unfold e7;omega
def XQ (a:Z):cG a=(if br (a<0)=bp then-1 else 1)*((cG a).natAbs:Z):=by
 have:=An (v:=a);by_cases b:a<0
 ·simp[b];omega
 simp[b];omega
def gy (a:X) (b:Z):Prop:=∃c,b=c*2^a
theorem gy.zero (a:X):gy a 0:=⟨0,by rw[pq]⟩
theorem gy.add (d:gy a c) (b:gy a j):gy a (c+j):=by obtain⟨e,rfl⟩:=d;obtain⟨f,rfl⟩:=b;exact⟨e+f,by rw[Int.add_mul]⟩
def gy.neg (b:gy a c):gy a (-c):=by obtain⟨d,rfl⟩:=b;exact⟨-d,by rw[Int.neg_mul]⟩
theorem gy.mono {e:X} (d:gy e c) (b:a<=e):gy a c:=by obtain⟨g,rfl⟩:=d;obtain⟨f,rfl⟩:=Nat.exists_eq_add_of_le b;exact⟨g*2^f,by rw[ajQ,AH,j5]⟩
def gy.shl (a:X) (b:Z):gy a (b*2^a):=⟨b,bn⟩
def gy.ge (f:gy a c) (e:c≠0):2^a<=c.natAbs:=by
 obtain⟨b,rfl⟩:=f;rw[jo];have:0<b.natAbs:=by
  rcases n0 b.natAbs with d|d
  ·have:b=0:=aa;rw[this,pq] at e;exact absurd rfl e
  exact d
 exact anb _ this
def gy.Re (d:c≠0):gy a c↔a<=cT c.natAbs:=by
 rw[sS aa];constructor
 ·rintro⟨e,rfl⟩;rw[jo,anc]
 intro b;exact⟨c/2^a,(zJ b).symm⟩
def gy.ex (d:c≠0) (b:gy a c):(a:Z)-65536<=e7 c:=by have:=(gy.Re d).1 b;unfold e7;omega
def Py {neg:bA} (b:Z) (d:a<=9007199254740992) (e:-1074<=c) (f:c<=900):kG neg a c b=kG neg a c 0/\bd (kG neg a c 0)≠2047:=by
 unfold kG;rw[ax (aa:¬c+1+1075>=2047),ax (aa:¬c+1075>=2047),ax (aa:¬c+1+1075>=2047),ax (aa:¬c+1075>=2047)];refine⟨bn,?_⟩;split
 ·unfold bd jd;cases neg<;>simp<;>omega
 split
 ·unfold bd jd;cases neg<;>simp<;>omega
 unfold bd jd;cases neg<;>simp<;>omega
theorem acn {v:Z} (d:Z) (k:v≠0) (F:gy (65536-1074) v) (Q:aN v.natAbs<=65536+900):bd (qe v d)≠2047/\∃o,a6 (qe v d)=Y o/\(∀l,gy l v->gy l o)/\o.natAbs<=2*v.natAbs/\v.natAbs<=2*o.natAbs:=by
 have ad:=F.ex k;have q:0<(cG v).natAbs:=(by have:=jr k;omega);have S:=Ot k;have V:=ts (n:=v.natAbs) aa;have p:v=(if br (v<0)=bp then-1 else 1)*((cG v).natAbs:Z)*2^(e7 v+65536).toNat:=(by rw[<-XQ];exact XS (UG v));have C:(e7 v+65536).toNat=cT v.natAbs:=(by unfold e7;omega);have O:e7 v=(cT v.natAbs:Z)-65536:=rfl;unfold qe;rw[ax k];generalize R:(cG v).natAbs=a at*;generalize T:br (v<0)=c at*;have f:=Fx (neg:=c) (s4:=bq) (oj:=d) (e:=e7 v) q;have M:db a (e7 v)=e7 v+aN a-53\/db a (e7 v)=-1074:=(by unfold db;omega);have m:e7 v+aN a-53<=db a (e7 v)/\-1074<=db a (e7 v):=(by unfold db;omega);have y:db a (e7 v)<=900:=aa;have H:=ua q;unfold lK;generalize db a (e7 v)=g at*;by_cases t:g<=e7 v
 ·rw[au t] at f|-;obtain⟨j,w⟩:=fR (aa:0<=e7 v-g);rw[w,fC] at f|-;obtain⟨aw,i⟩:=Py (neg:=c) d f m.2 y;have r:4503599627370496<=a*2^j\/g=-1074:=by
   rcases M with s|s
   ·left;have aq:aN (a*2^j)=53:=(by rw[oU q];omega);have:=sh.1 (aa:52<aN (a*2^j));exact this
   exact .inr s
  rw[aw];refine⟨i,v,?_,λl E=>E,aa,aa⟩;rw[rB i,Pz f m.2 r i];congr 1;have N:(e7 v+65536).toNat=j+(g+65536).toNat:=aa;rw[N,AH] at p;refine Eq.trans ?_ p.symm
  push_cast
  generalize(2:Z)^j=am;generalize(2:Z)^(g+65536).toNat=an;cases c<;>simp<;>grind
 rw[ax t] at f|-;obtain⟨b,L⟩:=fR (aa:0<=g-e7 v);rw[L,fC] at f|-;obtain⟨aw,i⟩:=Py (neg:=c) d f m.2 y;have U:b+53=aN a:=aa;have K:hS c a b bq d<=a/2^b+1:=by
  unfold hS;split
  ·omega
  split<;>omega
 have G:2^52*2^b<=a:=(by rw[<-i7];exact eD (rC _ _ aa) H.1);have x:=jy b;have J:4503599627370496<=a/2^b:=(alL x).2 G;have u:a/2^b<=hS c a b bq d:=by
  unfold hS;split
  ·exact bc _
  split<;>omega
 have r:=eD J u;have w:=Nat.div_mul_le_self a (2^b);rw[aw];generalize hS c a b bq d=h at*;refine⟨i,(if c=bp then-(h:Z) else(h:Z))*2^(g+65536).toNat,?_,?_,?_⟩
 ·rw[rB i,Pz f m.2 (.inl r) i]
 ·intro l I;have:=(gy.Re k).1 I;exact(gy.shl _ _).mono aa
 have aq:(g+65536).toNat=b+cT v.natAbs:=aa;have z:v.natAbs=a*2^cT v.natAbs:=(by have:=b3 Int.natAbs p;have B:(if c=bp then(-1:Z) else 1).natAbs=1:=(by cases c<;>rfl);rw[jo,vT,akS,C,B,lv] at this;exact this);have A:(if c=bp then-(h:Z) else(h:Z)).natAbs=h:=(by cases c<;>simp);rw[jo,aq,i7,<-oL,A];have D:h*2^b<=(a/2^b+1)*2^b:=h5 _ K;rw[lu,lv] at D;have f2:2^b<=2^52*2^b:=anb _ ab;have P:a/2^b*2^b<=h*2^b:=h5 _ u;have f4:=r3 a (2^b);have f5:=aju a x;rw[qD] at f4;generalize cT v.natAbs=s at*;rw[z];constructor
 ·rw[<-oL];exact h5 _ aa
 rw[<-oL];exact h5 _ aa
def ls (c d:X) (b:Z):Prop:=eK b/\bd b≠2047/\∀a,a6 b=Y a->gy (65536-56) a/\a.natAbs<=2^(65536+c)/\(a≠0->2^(65536-d)<=a.natAbs)
theorem ls.mono (d:ls a f c) (i:a<=b) (j:f<=q):ls b q c:=
 ⟨d.1,d.2.1,λg e=>⟨(d.2.2 g e).1,eD (d.2.2 g e).2.1 (rC _ _ aa),λh=>eD (rC _ _ aa) ((d.2.2 g e).2.2 h)⟩⟩
theorem ls.zero (b d:X):ls b d 0:=⟨⟨ab,ab⟩,ab,λe a=>by
 rw[Oy] at a;cases a;exact⟨gy.zero _,c8 _,λc=>absurd rfl c⟩⟩
def Pr {Xv M E:X} (e:E<2048) (f:M/2^52=2048):((Xv&&&M)|||(E<<<52))/2^52 %2048=E/\((Xv&&&M)|||(E<<<52)) %2^52=(Xv %2^52)&&&(M %2^52):=by
 constructor
 ·rw[<-alA,Nat.shiftRight_or_distrib,Nat.shiftRight_and_distrib,alA M,f,Nat.shiftLeft_shiftRight];have c:=ane (a:=(Xv>>>52)&&&2048) (b:=E) (n:=11);have d:=al2 (a:=Xv>>>52) (b:=2048) (n:=11);rw[(ab:(2048:X) %2^11=0),anf] at d;rw[d,Nat.zero_or,(ab:(2:X)^11=2048),Nat.mod_eq_of_lt e] at c;exact c
 rw[ane,al2,akG,anc,Nat.or_zero]
def K6 (b:X) (c:a<18446744073709551616):b&&&a<18446744073709551616:=ang anh c
def Pt {Xv M E:X} (e:Xv<18446744073709551616) (c:M<18446744073709551616) (g:E<2048):fN bC (ey bC (Xv:Z) (M:Z)) ((E<<<52:X):Z)=(((Xv&&&M)|||(E<<<52):X):Z):=by have a:=K6 Xv c;have b:E<<<52<18446744073709551616:=(by rw[akG];omega);have d:ey bC (Xv:Z) (M:Z)=((Xv&&&M:X):Z):=(by unfold ey;rw[show bC.bits=64 from rfl,al3,uc e,uc c,tx aa aa]);have f:(Xv&&&M)|||(E<<<52)<18446744073709551616:=alJ (n:=64) a b;rw[d];unfold fN;rw[show bC.bits=64 from rfl,BitVec.toNat_or,uc a,uc b,tx aa aa]
def XU {E:X} (e:bd c=(E:Z)) (f:0<E) (g:E<2047) (h:a+1075=E+65536):∃b:Z,a6 c=Y (b*2^a)/\b.natAbs=4503599627370496+(fy c).toNat/\(fy c).toNat<4503599627370496:=by
 have i:=uR c;refine⟨j3 c,?_,?_,aa⟩
 ·rw[rB aa];have:(kA c+65536).toNat=a:=(by unfold kA;rw[ax aa];omega);rw[this]
 unfold j3;have d:¬bd c=0:=aa;rw[ax d];split<;>omega
def ls.uT {E l:X} (k:eK c) (h:bd c=(E:Z)) (p:1075-56<=E+51) (q:E<1100) (f:1075-56<=E\/(fy c).toNat %2251799813685248=0) (t:E+53<=1075+a) (u:1075<=E+52+l) (v:l<=65536):ls a l c:=by
 obtain⟨b,j⟩:∃b,b+1075=E+65536:=⟨E+64461,aa⟩;obtain⟨d,i,r,s⟩:=XU h aa aa j;have n:53+b<=65536+a:=aa;have o:65536-l<=52+b:=aa;refine⟨k,aa,λw g=>?_⟩;rw[i] at g;cases g;refine⟨?_,?_,λ_=>?_⟩
 ·rcases f with f|f
  ·exact(gy.shl _ _).mono aa
  have m:d.natAbs %2^51=0:=(by rw[(ab:(2:X)^51=2251799813685248)];omega);have aq:=(zJ m).symm;refine gy.mono (e:=51+b) ⟨d/2^51,?_⟩ aa;rw[AH 51 b,<-j5,<-aq]
 ·rw[jo];have:d.natAbs<=2^53:=(by rw[(ab:(2:X)^53=9007199254740992)];omega);refine eD (h5 _ this) ?_;rw[<-i7];exact rC _ _ n
 rw[jo];have:2^52<=d.natAbs:=(by rw[(ab:(2:X)^52=4503599627370496)];omega);refine eD ?_ (h5 _ this);rw[<-i7];exact rC _ _ o
def Mz (a:X):bd (a:Z)=((a/2^52 %2048:X):Z):=by unfold bd;rw[(ab:(2:X)^52=4503599627370496)];omega
def UR (a:X):(fy (a:Z)).toNat=a %2^52:=by unfold fy;rw[(ab:(2:X)^52=4503599627370496)];omega
def SF {Xv M:X} (b:Xv<18446744073709551616) (a:M<18446744073709551616):ey bC (Xv:Z) (M:Z)=((Xv&&&M:X):Z):=by have c:=K6 Xv a;unfold ey;rw[show bC.bits=64 from rfl,al3,uc b,uc a,tx aa aa]
def QC {E:X} (b:E<2048):((E:Z)*(2:Z)^(52:Z).toNat) %(18446744073709551616:Z)=((E<<<52:X):Z):=by rw[akG,show((52:Z).toNat)=52 from rfl];have aq:(2:Z)^52=4503599627370496:=ab;have a:(2:X)^52=4503599627370496:=ab;rw[aq,a];omega
def ac2 (d e:X) (u:5<=d) (r:-9<=c) (s:c<=9):ls d e (kJ (jn c) 0):=by
 have w:aN c.natAbs<=4:=gj.2 aa;obtain⟨a,t⟩:∃a:X,a=65536:=⟨_,bn⟩;have m:jn c=Y (c*2^a):=by
  unfold jn;rw[Ep (v:=c*2^a) ab (by rw[(aa:((0:Z)+65536).toNat=a)])];unfold oV;rw[au];unfold fO;rw[jo];rcases n0 c.natAbs with b|b
  ·rw[b,Nat.zero_mul];decide
  rw[oU b];omega
 have g:=E6 (jn c) 0;rw[m] at g|-;by_cases j:c=0
 ·rw[j,pq];exact ls.zero d e
 have x:(0:Z)<2^a:=mM ab;have n:c*2^a≠0:=al1 j aa;obtain⟨aw,y,p,q,k,_⟩:=acn (v:=c*2^a) 0 n ((gy.shl a c).mono aa) (by
  rw[jo,oU aa];omega)
 refine⟨g,aw,λl o=>?_⟩;have i:a6 (qe (c*2^a) 0)=Y l:=o;rw[p] at i;cases i;have h:=q a (gy.shl a c);refine⟨h.mono aa,?_,λb=>eD (rC (65536-e) a aa) (h.ge b)⟩;rw[jo] at k;have:2*c.natAbs<=2^5:=aa;have f:=h5 (2^a) this;rw[<-i7] at f;refine eD k ?_;rw[<-oL];exact eD f (rC (5+a) (65536+d) aa)
def ac1 {z:Z} (a:-9<=z) (b:z<=9):ls 5 4 (kJ (jn z) 0):=ac2 5 4 ab a b
def XM (o:eK j) (A:o8 c 4<3):ae (uA (j,c,())) λl=>ls 41 41 l.1/\(o8 c 4<2->ls 5 4 l.1):=by
 obtain⟨a,rfl⟩:=cB o.1;have i:a<18446744073709551616:=(by have:=o.2;omega);unfold uA;dsimp only;refine bz (xG c (n:=4) ab ab) ?_;dsimp only;rw[gD,gD,gD,cQ];refine ah9 (λ_=>?_) λu=>?_
 ·rw[tn ab ab,aC];have k:∃b:X,b<8/\ey bC ((a:Z)/2^(52:Z).toNat) 7=(b:Z):=by
   refine⟨a/2^52&&&7,?_,?_⟩
   ·have:a/2^52&&&7<=7:=anh;omega
   rw[<-SF (Xv:=a/2^52) (M:=7) (ang (yt _ _) i) ab];rfl
  obtain⟨b,v,k⟩:=k;rw[k,show aL (1019+(b:Z))=((1019+b:X):Z) by rw[fq aa aa];omega,nQ ab ab,aC,QC aa];refine bu.2 ?_;have f:=Pt (Xv:=a) (M:=9227875636482146303) (E:=1019+b) i ab aa;have e:=Pr (Xv:=a) (M:=9227875636482146303) (E:=1019+b) aa ab;have h:=Ps (ey bC (a:Z) 9227875636482146303) (((1019+b)<<<52:X):Z);show ls 41 41 (fN bC (ey bC (a:Z) 9227875636482146303) (((1019+b)<<<52:X):Z))/\_;have m:ls 5 4 (fN bC (ey bC (a:Z) 9227875636482146303) (((1019+b)<<<52:X):Z)):=(by refine ls.uT (E:=1019+b) h ?_ aa aa (.inl aa) aa aa aa;refine(b3 bd f).trans ?_;rw[Mz,e.1]);exact⟨m.mono ab ab,λ_=>m⟩
 rw[cQ];refine ah9 (λr=>?_) λr=>?_
 ·rw[tn ab ab,aC];have s:iC ((a:Z)/2^(8:Z).toNat) 81=Y ((a/2^8 %81:X):Z):=by
   unfold iC;rw[au ab];rfl
  rw[s,aC];have w:a/2^8 %81<81:=aju _ ab;generalize a/2^8 %81=d at*;rw[show aL (983+(d:Z))=((983+d:X):Z) by rw[fq aa aa];omega,nQ ab ab,aC,QC aa];refine bu.2 ?_;have f:=Pt (Xv:=a) (M:=9225623836668461056) (E:=983+d) i ab aa;have e:=Pr (Xv:=a) (M:=9225623836668461056) (E:=983+d) aa ab;have h:=Ps (ey bC (a:Z) 9225623836668461056) (((983+d)<<<52:X):Z);show ls 41 41 (fN bC (ey bC (a:Z) 9225623836668461056) (((983+d)<<<52:X):Z))/\_;refine⟨ls.uT (E:=983+d) h ?_ aa aa (.inr ?_) aa aa aa,λg=>by omega⟩
  ·refine(b3 bd f).trans ?_;rw[Mz,e.1]
  have q:=b3 (λp=>(fy p).toNat) f;refine Eq.trans (b3 (· %2251799813685248) q) ?_;show(fy _).toNat %2251799813685248=0;rw[UR,e.2,(ab:(2251799813685248:X)=2^51),al2,(ab:(9225623836668461056:X) %2^52 %2^51=0),anf]
 rw[cQ];refine ah9 (λt=>?_) λ_=>?_
 ·exfalso;omega
 unfold G1;refine bz (y:=(kJ (jn ((a:Z) %19-9)) 0,())) ?_ (bu.2 ?_)
 ·refine ai (y:=(a:Z) %19) ?_ ?_
  ·unfold iC;rw[au ab,FL aa]
  dsimp only;rw[cL (x:=(a:Z) %19) aa aa,cL aa aa];exact ai (ace aa aa) rfl
 have g:=ac1 (z:=(a:Z) %19-9) aa aa;exact⟨g.mono ab ab,λ_=>g⟩
section
def Va {B:X} (d:B=65536) (b:bd j≠2047) (a:a6 j=Y c):gy (B-1074) c:=by rw[rB b] at a;cases a;have e:=Ht b;exact(gy.shl _ _).mono aa
section
variable {A:X->X->ahT} {G:ew} {o:ahZ} {n J:X}
variable {B b:X}
end
end
section
def cS (A e k c:X) (b:ahT):Prop:=∃a,b=Y a/\gy (A-e) a/\a.natAbs<=c*2^(A+k)
section
variable {A e k c B D C:X} {a b:ahT}
theorem cS.rng (g:A=65536) (i:k<=60000) (h:c<1048576) (a:j.natAbs<=c*2^(A+k)):fO j:=by have e:=l3 a;have b:aN c<=20:=gj.2 aa;have d:aN (2^(A+k))<=A+k+1:=gj.2 (aaU _ _ aa);have f:=BH b d;grind [fO]
theorem cS.mono (b:cS A e k c a) (i:e<=B) (j:k<=D) (g:c<=C):cS A B D C a:=by obtain⟨h,rfl,d,f⟩:=b;exact⟨h,bn,d.mono aa,eD f (mR g (rC _ _ aa))⟩
theorem cS.zero:cS A e k c (Y 0):=⟨0,bn,gy.zero _,c8 _⟩
def cS.neg (b:cS A e k c a):cS A e k c (c7 a):=by obtain⟨f,rfl,d,g⟩:=b;exact⟨-f,bn,d.neg,aa⟩
theorem cS.add (m:A=65536) (o:k<=60000) (j:cS A e k c a) (h:cS A e k C b) (n:c+C<1048576):cS A e k (c+C) (cK a b)/\cK a b=Y (a.getD 0+b.getD 0):=by obtain⟨d,rfl,l,q⟩:=j;obtain⟨f,rfl,i,p⟩:=h;have g:(d+f).natAbs<=(c+C)*2^(A+k):=(by grind);have e:cK (Y d) (Y f)=Y (d+f):=(by show oV (d+f)=_;unfold oV;rw[au (cS.rng m o n g)]);exact⟨⟨_,e,l.add i,g⟩,e⟩
theorem cS.mul (q:A=65536) (o:cS A e k c a) (m:cS A B D C b) (v:e+B<=60000) (s:k+D<=60000) (r:c*C<1048576):cS A (e+B) (k+D) (c*C) (cU a b)/\∃d f l,a=Y d/\b=Y f/\cU a b=Y l/\l*2^A=d*f:=by obtain⟨d,rfl,⟨g,t⟩,p⟩:=o;obtain⟨f,rfl,⟨h,u⟩,n⟩:=m;have aq:g*h*2^(A-(e+B))*2^A=d*f:=(by rw[t,u,j5 (g*h),<-AH,(aa:A-(e+B)+A=(A-e)+(A-B)),AH];grind);have i:(g*h*2^(A-(e+B))).natAbs<=c*C*2^(A+(k+D)):=(by refine Nat.le_of_mul_le_mul_right (c:=2^A) ?_ (jy A);rw[<-jo,aq,vT];refine eD (mR p n) (Nat.le_of_eq ?_);grind);have j:cU (Y d) (Y f)=Y (g*h*2^(A-(e+B))):=(by refine Of ?_ (cS.rng q s r i);grind);exact⟨⟨_,j,gy.shl _ _,i⟩,d,f,_,bn,bn,j,aq⟩
def cS.ri (c:A=65536) {f:Z} (a:bd f≠2047):cS A 1074 1024 1 (a6 f):=by obtain⟨e,b⟩:=Ez a;refine⟨e,b,Va c a b,?_⟩;rw[rB a] at b;obtain rfl:=gC b;have g:=Ht a;have d:(j3 f).natAbs<2^53:=gj.1 (Ob f);rw[jo,lv];refine eD (h5 _ (Nat.le_of_lt d)) ?_;rw[<-i7];exact rC _ _ aa
end
end
section
def h3 (a c b:Z):ahT:=cU (cU (a6 a) (a6 c)) (a6 b)
section
variable {A c:X}
def cS.h3 (a:A=65536) {b d c:Z} (e:bd b≠2047) (g:bd d≠2047) (f:bd c≠2047):cS A 3222 3072 1 (h3 b d c):=
 (cS.mul a (cS.mul a (cS.ri a e) (cS.ri a g) ab ab ab).1 (cS.ri a f) ab ab ab).1
def cS.sub (g:A=65536) {a:ahT} (d:cS A 3222 3072 c N) (b:cS A 3222 3072 1 a) (h:c+1<1048576):cS A 3222 3072 (c+1) (cK N (c7 a))/\cK N (c7 a)=Y (N.getD 0-a.getD 0):=by obtain⟨e,f⟩:=cS.add g ab d b.neg h;refine⟨e,f.trans ?_⟩;obtain⟨i,rfl,_⟩:=b;rfl
def cS.adk (a:A=65536) {f b d e:ahT} (g:cS A 3222 3072 c f) (h:cS A 3222 3072 1 N) (i:cS A 3222 3072 1 b) (j:cS A 3222 3072 1 d) (k:cS A 3222 3072 1 e) (D:c+4<1048576):cK (cK (cK (cK f (c7 N)) (c7 b)) (c7 d)) (c7 e)=cK f (c7 (cK (cK (cK N b) d) e))/\cS A 3222 3072 (c+4) (cK f (c7 (cK (cK (cK N b) d) e))):=by obtain⟨m,p⟩:=cS.sub a g h aa;obtain⟨n,q⟩:=cS.sub a m i aa;obtain⟨o,r⟩:=cS.sub a n j aa;obtain⟨C,s⟩:=cS.sub a o k aa;obtain⟨t,x⟩:=cS.add a ab h i ab;obtain⟨u,y⟩:=cS.add a ab t j ab;obtain⟨v,z⟩:=cS.add a ab u k ab;obtain⟨w,B⟩:=cS.add a ab g v.neg aa;refine⟨?_,w⟩;rw[s,B,r,q,p,z,y,x];obtain⟨l,rfl,_⟩:=g;show Y (l-N.getD 0-b.getD 0-d.getD 0-e.getD 0)=Y (l+-(N.getD 0+b.getD 0+d.getD 0+e.getD 0));congr 1;omega
end
structure aV where
 rows:ahY
 full:X
 s:X->X->ahT
def aV.bi (c:aV) (a b:X):Z:=kJ (c.s a b) 0
def aV.av (c:aV) (a b:X):Z:=((a6 (c.bi a b)).getD 0).natAbs
def aV.fin (a:aV) (c:X):Prop:=∀b∈a.rows,bd (a.bi b c)≠2047
instance(b:aV) (a:X):aiE (b.fin a):=ani ..
def e9 (b:X->Z) (c:X):ahY->Z×ahU->Z×ahU
 |[],a=>a
 |i::d,a=>e9 b c d (if i=c then a else if a.2=bo\/a.1<b i then(b i,Y i) else a)
def aV.fh (b:aV) (a:X):Z×ahU:=e9 (λc=>b.av c a) a b.rows (0,bo)
def aV.gL (a:aV):ahY->bv ahY
 |[]=>Y []
 |p::c=>if¬a.fin p then bo else
  if(a.fh p).1=0\/41*(a.fh p).1<=64*a.av p p then Y [p] else
  match(a.fh p).2 with
  |none=>Y [p]
  |some b=>if b∉a.rows.take a.full then a.gL c else if¬a.fin b then bo else
   if 41*((a.fh p).1*(a.fh p).1)<=64*(a.av p p*(a.fh b).1) then Y [p] else
   if 41*(a.fh b).1<=64*a.av b b then Y [b] else Y [p,b]
def aV.choose (a:aV):bv ahY:=a.gL (a.rows.take a.full)
structure a8 where
 cF:ahY
 d:ahZ
 rows:ahY
 l:bm (X->Z)
def kV (a:ahZ):ahT:=cK (cU (a6 (a.getD 0 0)) (a6 (a.getD 2 0))) (c7 (cU (a6 (a.getD 1 0)) (a6 (a.getD 1 0))))
def aV.gF (a:aV):ahY->ahZ
 |[p]=>[a.bi p p]
 |[p,r]=>[a.bi p p,a.bi r p,a.bi r r]
 |_=>[]
def aV.lc (a:aV):ahY->bm (X->Z)
 |[p]=>[λb=>if k5 (a.bi p p)=0 then 0 else gr (a.s b p) (a6 (a.bi p p)) 0]
 |[p,r]=>[λb=>gr (cK (cU (a.s b p) (a6 (a.bi r r))) (c7 (cU (a.s b r) (a6 (a.bi r p))))) (kV (a.gF [p,r])) 0,λb=>gr (cK (cU (a.s b r) (a6 (a.bi p p))) (c7 (cU (a.s b p) (a6 (a.bi r p))))) (kV (a.gF [p,r])) 0]
 |_=>[]
def nz (e:ahZ) (f:bm (X->Z)) (b d:X):ahT:=match e,f with
 |[d0],[a]=>h3 (a b) d0 (a d)
 |[d0,d1,d2],[a,c]=>cK (cK (cK (h3 (a b) d0 (a d)) (h3 (a b) d1 (c d))) (h3 (c b) d1 (a d))) (h3 (c b) d2 (c d))
 |_,_=>Y 0
def aV.elim (a:aV) (c:ahY):aV:=⟨a.rows.filter λb=>br (b∉c),a.full-c.length,λb d=>cK (a.s b d) (c7 (nz (a.gF c) (a.lc c) b d))⟩
def aV.eM (b:aV) (a:ahY):a8:=⟨a,b.gF a,b.rows.filter λc=>br (c∉a),b.lc a⟩
def a8.fin (a:a8):Prop:=∀b∈a.l,∀c∈a.rows,bd (b c)≠2047
instance(a:a8):aiE a.fin:=ani ..
def aV.run:X->aV->bv (aV×bm a8)
 |0,a=>Y (a,[])
 |n+1,a=>match a.choose with
  |none=>bo
  |some []=>Y (a,[])
  |some b=>if(a.eM b).fin then(aV.run n (a.elim b)).map λc=>(c.1,a.eM b::c.2) else bo
end
def fS (a:aV):de:=(a5 a.rows,(a.full:Z),a.rows.map (λb=>a.rows.map λc=>az (a.s b c)),())
def aV.okd (a:aV):Prop:=∀b∈a.rows,∀c∈a.rows,cP (a.s b c)
def E9 (a:cP N):uG (az N,())=Y (kJ N 0,()):=by unfold uG;exact ai (Qk a) rfl
def aV.Gj (c:aV) (d:bd (c.bi a b)≠2047):Bv (a6 (c.bi a b))=Y (c.av a b):=by obtain⟨f,e⟩:=Ez d;unfold aV.av;rw[e];rfl
theorem LZ {c:aV} (k:c.okd) (o:c.rows.length<=1000) (j:c.rows[b]?=Y a):zH (fS c,(b:Z),())=Y (if c.fin a then(c.rows.map (λd=>az (Y (c.av d a))),bp,()) else([],bq,())):=by
 have aq:al (fS c).1=(c.rows.length:Z):=(by rw[bh];exact b3 _ (fJ _));unfold zH;refine bQ.1 ?_;refine bE (P:=λl=>l=if c.fin a then .inl (c.rows.map (λd=>az (Y (c.av d a))),()) else .inr ([],bq,())) ?_ ?_
 ·refine bO c.rows.length (λd m=>m=((d:Z),(c.rows.take d).map (λd=>az (Y (c.av d a))),())/\∀f∈c.rows.take d,bd (c.bi f a)≠2047) ⟨bn,ac⟩ ?_ ?_
  ·rintro d _ g ⟨rfl,h⟩;dsimp only;rw[aq,aY (aK (aa:(d:Z)<(c.rows.length:Z))),bk aa];refine bz (y:=c.rows.map λf=>az (c.s c.rows[d] f)) ?_ ?_
   ·rw[fg];show(c.rows.map _)[d]?=_;grind
   refine bz (y:=az (c.s c.rows[d] a)) ?_ ?_
   ·grind [fg]
   refine bz (E9 (k _ (b7 g) _ (aig j))) ?_;refine bz (AR (E6 _ _)) ?_;dsimp only;by_cases e:bd (c.bi c.rows[d] a)=2047
   ·rw[aY (by show(!(!br (bd (c.bi c.rows[d] a)=2047)))=bp;grind)];refine bu.2 ?_;rw[ax λi=>i _ (cR g) e]
   rw[a1 (by show(!(!br (bd (c.bi c.rows[d] a)=2047)))=bq;grind)];refine bz (k9 (E6 _ _)) (bz (abZ (gO _)) ?_);dsimp only;rw[da (by grind),bN];refine bu.2 ⟨?_,λf n=>?_⟩
   ·rw[hN,ba g,jh];rw[show Bv (a6 (kJ (c.s c.rows[d] a) 0))=Y (c.av c.rows[d] a) from c.Gj e];rfl
   grind [ct,bS,ah4]
  rintro _ ⟨rfl,h⟩;dsimp only;rw[aq,a1 (aI (aa:¬(c.rows.length:Z)<(c.rows.length:Z))),cA] at*;refine bu.2 ?_;rw[ca (show c.fin a from h)]
 rintro _ rfl;by_cases e:c.fin a
 ·rw[au e,au e];grind [bu]
 rw[ax e,ax e];grind [bu]
theorem NF (a:fO c) (b:fO j):zD (az (Y c),az (Y j),())=Y (br (c<j),()):=by
 unfold zD;refine ai (ab0 a b) ?_;show Y (br (fF c j<0),())=_;unfold fF;by_cases d:c<j
 ·simp_all
 grind
theorem Nj {n:Z} (c:n.natAbs<1024) (d:a=65536):jn n=Y (n*2^a):=by
 have e:aN n.natAbs<=10:=gj.2 aa;unfold jn;rw[Ep (v:=n*2^a) ab (by rw[(aa:((0:Z)+65536).toNat=a)])];unfold oV;rw[au];unfold fO;rw[jo];rcases n0 n.natAbs with b|b
 ·grind
 grind [oU]
theorem Eu (b:c.natAbs<1024) (e:fO (c*j)):cU (jn c) (Y j)=Y (c*j):=by obtain⟨a,d⟩:∃a:X,a=65536:=⟨_,bn⟩;rw[Nj b d];grind [Int.mul_assoc,ai1,Of]
theorem J4 (d:cP (Y c)) (e:cP (Y j)) (a:fO (64*c)) (b:fO (41*j)):w4 (az (Y c),az (Y j),())=Y (br (41*j<=64*c),()):=by unfold w4;refine ai (Jt ab ab) (ai (kI (xk _) d) (ai (Jt ab ab) (ai (kI (xk _) e) ?_)));rw[Eu ab a,Eu ab b];refine ai (NF a b) ?_;grind [aI,aK]
theorem xh (d:X->Z) (c:X):∀(a b:ahY) (e:Z×ahU),e9 d c (a++b) e=e9 d c b (e9 d c a e)
 |[],_,_=>rfl
 |i::a,b,e=>xh d c a b _
def pO:ahU->Z
 |none=>-1
 |some a=>a
theorem VC {vs:ahZ} (t:∀e∈vs,fO e) (s:vs.length<=1000) (c:X):w3 (vs.map (λe=>az (Y e)),(c:Z),())=Y (az (Y (e9 (λb=>vs.getD b 0) c (bI vs.length) (0,bo)).1),pO (e9 (λb=>vs.getD b 0) c (bI vs.length) (0,bo)).2,()):=by
 have n:∀a,fO (e9 (λb=>vs.getD b 0) c (bI a) (0,bo)).1:=λa=>by
  induction a with
  |zero=>exact c8 _
  |succ a q=>
   rw[i5,xh,e9,e9];split
   ·exact q
   split
   ·rcases cO a vs.length with j|j
    ·grind
    show fO (vs.getD a 0);rw[lX,qz j];exact c8 _
   omega
 unfold w3;refine bQ.1 ?_;refine bE (P:=λg=>∃h,g=(pO (e9 (λb=>vs.getD b 0) c (bI vs.length) (0,bo)).2,h,az (Y (e9 (λb=>vs.getD b 0) c (bI vs.length) (0,bo)).1),())) ?_ (by grind [bu]);refine bO vs.length (λa g=>∃h,g=(pO (e9 (λb=>vs.getD b 0) c (bI a) (0,bo)).2,(a:Z),h,az (Y (e9 (λb=>vs.getD b 0) c (bI a) (0,bo)).1),())) ⟨_,bn⟩ ?_ ?_
 ·rintro a _ r ⟨h,rfl⟩;have o:=n a;have p:e9 (λb=>vs.getD b 0) c (bI (a+1)) (0,bo)=if a=c then e9 (λb=>vs.getD b 0) c (bI a) (0,bo) else if(e9 (λb=>vs.getD b 0) c (bI a) (0,bo)).2=bo\/(e9 (λb=>vs.getD b 0) c (bI a) (0,bo)).1<vs[a] then(vs[a],Y a) else e9 (λb=>vs.getD b 0) c (bI a) (0,bo):=by
   grind [kc,ais,xh,e9]
  rw[p];generalize e9 (λb=>vs.getD b 0) c (bI a) (0,bo)=l at*;obtain⟨f,d⟩:=l;dsimp only at o|-;rw[aY (aK (show(a:Z)<al (vs.map λe=>az (Y e)) by grind)),bk aa];have m:ao (vs.map λe=>az (Y e)) (a:Z)=Y (az (Y vs[a])):=(by grind [fg,bS]);refine bE (P:=λg=>g=(pO (if a=c then(f,d) else if d=bo\/f<vs[a] then(vs[a],Y a) else(f,d)).2,h,az (Y (if a=c then(f,d) else if d=bo\/f<vs[a] then(vs[a],Y a) else(f,d)).1),())) ?_ (by grind [bu]);refine bE (P:=λg=>g=(br (a≠c/\(d=bo\/f<vs[a])),h,az (Y f),())) ?_ ?_
  ·by_cases i:a=c
   ·subst i;rw[a1 (by grind)];grind [aI,bu]
   rw[aY (by grind)];cases d with
   |none=>
    rw[a1 (by rfl)];grind [aK,bu]
   |some d=>
    rw[aY (by show(br ((d:Z)<0)==bq)=bp;grind)];simp_all [cx,bu,bz,NF,cR]
  rintro _ rfl;dsimp only;rw[cQ];refine ah9 (λk=>?_) (λk=>?_)
  ·rw[ax k.1,au k.2];exact bz m (bu.2 bn)
  by_cases i:a=c
  ·rw[au i];grind [bu]
  rw[ax i,ax λj=>k ⟨i,j⟩];grind [bu]
 rintro _ ⟨h,rfl⟩;dsimp only;rw[a1 (aI (show¬(vs.length:Z)<al (vs.map λe=>az (Y e)) by grind))];grind [bu]
theorem gy.Sx (b:gy a c):gy a (c.natAbs:Z):=by
 rcases Int.natAbs_eq c with d|d
 ·grind
 have:=b.neg;grind
def cS.abs (d:cS a f q b (Y c)):cS a f q b (Y (c.natAbs:Z)):=by obtain⟨i,g,e,h⟩:=d;cases g;exact⟨_,bn,gy.Sx e,aa⟩
def aV.sf (g:a=65536) (e:aV) (c:bd (e.bi b f)≠2047):cS a 1074 1024 1 (Y (e.av b f)):=by have:=cS.ri g c;obtain⟨h,d⟩:=Ez c;rw[d] at this;unfold aV.av;rw[d];exact this.abs
theorem HP {a:X} {e:X->Z} {h:X}:∀{c:ahY} {b:Z×ahU},(∀i∈c,cS a 1074 1024 1 (Y (e i)))->cS a 1074 1024 1 (Y b.1)->cS a 1074 1024 1 (Y (e9 e h c b).1)
 |[],_,_,d=>d
 |i::c,b,f,d=>by rw[e9];refine HP (λg j=>f g (by grind)) ?_;grind
def aV.D0 (e:a=65536) (c:aV) (d:c.fin b):cS a 1074 1024 1 (Y (c.fh b).1):=HP (λg f=>c.sf e (d g f)) cS.zero
theorem cS.lM (g:a=65536) (d:cS a q f b (Y c)) (i:f<=60000) (h:b<1048576):fO c:=by obtain⟨k,j,_,e⟩:=d;grind [cS.rng]
def cS.oy (g:f=65536) (d:cS f q a b (Y O)) (h:a<=60000) (m:b<=1024) (i:j.natAbs<=100):fO (j*O):=by obtain⟨n,l,_,e⟩:=d;cases l;refine cS.rng (c:=102400) g h ab (k:=a) ?_;rw[vT];refine eD (mR i e) ?_;rw[<-oL];exact h5 _ aa
theorem VB {c:aV} (q:c.rows.Nodup) (p:c.rows[a]?=Y b):∀d,d<=c.rows.length->(e9 (λf=>(c.rows.map λe=>c.av e b).getD f 0) a (bI d) (0,bo)).1=(e9 (λe=>c.av e b) b (c.rows.take d) (0,bo)).1/\(∀g,(e9 (λf=>(c.rows.map λe=>c.av e b).getD f 0) a (bI d) (0,bo)).2=Y g->g<d/\(e9 (λe=>c.av e b) b (c.rows.take d) (0,bo)).2=c.rows[g]?)/\((e9 (λf=>(c.rows.map λe=>c.av e b).getD f 0) a (bI d) (0,bo)).2=bo->(e9 (λe=>c.av e b) b (c.rows.take d) (0,bo)).2=bo):=by
 obtain⟨z,rfl⟩:=hF.1 p;intro d
 induction d with
 |zero=>
  intro _;refine⟨bn,?_,λ_=>rfl⟩;intro g h;cases h
 |succ d t=>
  intro y;obtain⟨j,o,k⟩:=t aa;have r:c.rows.take (d+1)=c.rows.take d++[c.rows[d]]:=(by simp_all);have s:(c.rows.map λe=>c.av e c.rows[a]).getD d 0=c.av c.rows[d] c.rows[a]:=(by grind);have x:c.rows[d]=c.rows[a]↔d=a:=⟨λh=>(ajl q).1 h,λh=>by grind⟩;rw[ais,xh,r,xh];generalize e9 (λf=>(c.rows.map λe=>c.av e c.rows[a]).getD f 0) a (bI d) (0,bo)=l at*;generalize e9 (λe=>c.av e c.rows[a]) c.rows[a] (c.rows.take d) (0,bo)=m at*;obtain⟨u,i⟩:=l;obtain⟨v,n⟩:=m;dsimp only at j o k;subst j;have A:i=bo↔n=bo:=by
   constructor
   ·exact k
   intro w;cases i with
   |none=>rfl
   |some g=>
    grind
  rw[e9,e9,e9,e9,s];grind
theorem M4 {c:aV} (q:c.rows.length<=1000) (o:c.rows.Nodup) (l:c.rows[b]?=Y a) (m:c.fin a):∃f:ahU,w3 (c.rows.map (λd=>az (Y (c.av d a))),(b:Z),())=Y (az (Y (c.fh a).1),pO f,())/\(∀e,f=Y e->e<c.rows.length/\(c.fh a).2=c.rows[e]?)/\(f=bo->(c.fh a).2=bo):=by
 obtain⟨g,i⟩:∃g:X,g=65536:=⟨_,bn⟩;have h:=VC (vs:=c.rows.map λd=>c.av d a) (λr p=>by
  obtain⟨d,n,rfl⟩:=eY.1 p;exact(c.sf i (m d n)).lM i ab ab) (by grind) b
 obtain⟨aw,j,k⟩:=VB o l c.rows.length (bc _);rw[hO] at aw j k;rw[oJ,ff,aw] at h;exact⟨_,h,j,k⟩
def qr (a:aV) (d:ahY) (e:ahZ×bA×bt):Prop:=(e=([],bq,())/\a.gL d=bo)\/∃c:ahY,e=(a5 c,bp,())/\(∀b∈c,b<a.rows.length)/\a.gL d=Y (c.map λb=>a.rows.getD b 0)
theorem qr.of {a:aV} (c:a.gL e=a.gL n) (b:qr a n y):qr a e y:=by grind [qr]
theorem HQ {e:X->Z} {d:X}:∀{c:ahY} {a:Z×ahU},(e9 e d c a).2=bo->a.2=bo/\(e9 e d c a).1=a.1
 |[],_,b=>⟨b,bn⟩
 |i::c,a,b=>by rw[e9] at b|-;obtain⟨f,g⟩:=HQ b;grind
theorem Et {b d e:Z} (f:c*2^a=O*b) (g:j*2^a=d*e):41*c<=64*j↔41*(O*b)<=64*(d*e):=by have h:(0:Z)<2^a:=mM ab;rw[<-f,<-g,<-j5,<-j5];simp_all
theorem abQ {a:aV} (J:a.okd) (p:a.rows.length<=1000) (F:a.rows.Nodup) (cs:a.full<=a.rows.length):ae (zG (fS a,())) λh=>qr a (a.rows.take a.full) h:=by
 obtain⟨A,e⟩:∃A:X,A=65536:=⟨_,bn⟩;unfold zG;refine bE (P:=λf=>(f=.inl ()/\a.gL (a.rows.take a.full)=Y [])\/∃h,f=.inr h/\qr a (a.rows.take a.full) h) ?_ ?_
 rotate_left
 ·rintro _ (⟨rfl,k⟩|⟨h,rfl,k⟩)
  ·exact bu.2 (.inr ⟨[],bn,ac,k⟩)
  grind [bu]
 refine bO a.full (λd bx=>bx=((d:Z),())/\a.gL (a.rows.take a.full)=a.gL ((a.rows.take a.full).drop d)) ⟨bn,bn⟩ ?_ ?_
 rotate_left
 ·rintro _ ⟨rfl,k⟩;dsimp only;rw[a1 (aI (show¬(a.full:Z)<(fS a).2.1 from Int.lt_irrefl _))];refine bu.2 (.inl ⟨bn,?_⟩);grind [alR,aib,aV.gL]
 rintro d _ dl ⟨rfl,am⟩;dsimp only;have a3:d<a.rows.length:=aa;have t:a.rows[d]?=Y a.rows[d]:=bS a3;have an:(a.rows.take a.full).drop d=a.rows[d]::(a.rows.take a.full).drop (d+1):=(by grind [List.drop_eq_getElem_cons,aib]);have c1:a.rows.getD d 0=a.rows[d]:=(by grind);rw[aY (aK (show(d:Z)<(fS a).2.1 by show(d:Z)<(a.full:Z);omega)),bk aa];refine bE (P:=λf=>(f=.inl ()/\a.gL ((a.rows.take a.full).drop d)=a.gL ((a.rows.take a.full).drop (d+1)))\/∃h,f=.inr (.inr (.inr h))/\qr a ((a.rows.take a.full).drop d) h) ?_ ?_
 rotate_left
 ·rintro _ (⟨rfl,k⟩|⟨h,rfl,k⟩)
  ·grind [bu]
  exact bu.2 (.inr ⟨h,bn,k.of am⟩)
 rw[an];generalize(a.rows.take a.full).drop (d+1)=B;generalize a.rows[d]=b at*;refine bz (LZ J p t) ?_;by_cases l:a.fin b
 rotate_left
 ·rw[ck l];dsimp only;rw[aY (by rfl)];refine bu.2 (.inr ⟨_,bn,.inl ⟨bn,?_⟩⟩);rw[aV.gL,ca l]
 rw[ca l];dsimp only;rw[a1 (by rfl)];obtain⟨ce,S,T,U⟩:=M4 p F t l;refine bz S ?_;dsimp only;have q:=a.D0 e l;have V:=aig t;have v:=a.sf e (l b V);have r:cP (Y (a.fh b).1):=λn g=>(by cases g;exact q.lM e ab ab);have G:cP (Y (a.av b b)):=λn g=>(by cases g;exact v.lM e ab ab);have D:ao (a.rows.map λx=>az (Y (a.av x b))) (d:Z)=Y (az (Y (a.av b b))):=(by grind [fg]);refine bE (P:=λf=>f=if(a.fh b).1=0\/41*(a.fh b).1<=64*a.av b b then .inr (.inr (.inr (.inr ([(d:Z)],bp,())))) else .inl (az (Y (a.fh b).1),())) ?_ ?_
 ·refine bE (P:=λf=>f=(br ((a.fh b).1=0\/41*(a.fh b).1<=64*a.av b b),az (Y (a.fh b).1),())) ?_ ?_
  ·refine bz (ab5 r) ?_;dsimp only;by_cases o:(a.fh b).1=0
   ·rw[a1 (by show((gB (a.fh b).1==0)==bq)=bq;grind [jv,aK])];grind [aK,bu]
   rw[aY (by show((gB (a.fh b).1==0)==bq)=bp;grind [jv,aI])];refine bz D (bz (J4 G r (v.oy e ab ab ab) (q.oy e ab ab ab)) ?_);simp_all [cx,bu]
  rintro _ rfl;dsimp only;rw[cQ];refine ah9 (λo=>?_) (λo=>?_)
  ·rw[au o];grind [bu]
  rw[ax o];grind [bu]
 rintro _ rfl;by_cases s:(a.fh b).1=0\/41*(a.fh b).1<=64*a.av b b
 ·rw[au s];refine bu.2 (.inr ⟨_,bn,.inr ⟨[d],bn,by grind,?_⟩⟩);simp_all [ax,ah2,au,r0,aV.gL]
 rw[ck s];dsimp only;cases ce with
 |none=>
  exfalso;exact s (.inl (HQ (U bn)).2)
 |some c=>
  obtain⟨a0,c2⟩:=T c bn;have u:a.rows[c]?=Y a.rows[c]:=ba a0;have cv:a.rows.getD c 0=a.rows[c]:=(by grind);have m:a.gL (b::B)=if a.rows[c]∉a.rows.take a.full then a.gL B else if¬a.fin a.rows[c] then bo else
   if 41*((a.fh b).1*(a.fh b).1)<=64*(a.av b b*(a.fh a.rows[c]).1) then Y [b] else
   if 41*(a.fh a.rows[c]).1<=64*a.av a.rows[c] a.rows[c] then Y [a.rows[c]] else Y [b,a.rows[c]]:=by
   simp_all [ax,ah2,aV.gL]
  have E:a.rows[c]∈a.rows.take a.full↔c<a.full:=(by grind [ajl,ajJ]);generalize a.rows[c]=i at*;show ae (bif br ((c:Z)>=(fS a).2.1) then _ else _) _;by_cases C:c<a.full
  rotate_left
  ·rw[aY (aK (show(c:Z)>=(fS a).2.1 by show(a.full:Z)<=(c:Z);omega))];exact bu.2 (.inl ⟨bn,m.trans (au (mt E.1 C))⟩)
  rw[a1 (aI (show¬(c:Z)>=(fS a).2.1 by show¬(a.full:Z)<=(c:Z);omega))];rw[ax (ah2 (E.2 C))] at m;refine bz (LZ J p u) ?_;by_cases j:a.fin i
  rotate_left
  ·rw[ck j];dsimp only;rw[aY (by rfl)];exact bu.2 (.inr ⟨_,bn,.inl ⟨bn,m.trans (ca j)⟩⟩)
  rw[ca j];dsimp only;rw[a1 (by rfl)];rw[ck (ah2 j)] at m;obtain⟨ds,bl,_,_⟩:=M4 p F u j;refine bz bl ?_;dsimp only;have w:=a.D0 e j;have ad:=aig u;have H:=a.sf e (j i ad);have I:cP (Y (a.fh i).1):=λn g=>(by cases g;exact w.lM e ab ab);have a4:cP (Y (a.av i i)):=λn g=>(by cases g;exact H.lM e ab ab);have ap:ao (a.rows.map λx=>az (Y (a.av x i))) (c:Z)=Y (az (Y (a.av i i))):=(by grind [fg]);obtain⟨y,_,_,ci,aq,O,K,L⟩:=cS.mul e v w ab ab ab;obtain⟨z,_,_,co,Q,R,M,N⟩:=cS.mul e q q ab ab ab;cases aq;cases O;cases Q;cases R;rw[K] at y;rw[M] at z;refine bz D (bz (kI G I) (bz (kI r r) ?_));rw[K,M];refine bz (J4 (λn g=>by cases g;exact y.lM e ab ab) (λn g=>by cases g;exact z.lM e ab ab) (y.oy e ab ab ab) (z.oy e ab ab ab)) ?_;dsimp only;rw[cQ];refine ah9 (λf=>?_) (λf=>?_)
  ·rw[Et N L] at f;refine bu.2 (.inr ⟨_,bn,.inr ⟨[d],bn,by grind,?_⟩⟩);grind
  rw[Et N L] at f;rw[ck f] at m;refine bz ap (bz (J4 a4 I (H.oy e ab ab ab) (w.oy e ab ab ab)) ?_);dsimp only;rw[cQ];refine ah9 (λf=>?_) (λf=>?_)
  ·refine bu.2 (.inr ⟨_,bn,.inr ⟨[c],bn,by grind,?_⟩⟩);grind
  refine bu.2 (.inr ⟨_,bn,.inr ⟨[d,c],bn,by grind,?_⟩⟩);grind
def abC (b:eK j) (a:eK c) (d:eK O):zF ([j,c,O],())=Y (az (kV [j,c,O]),()):=by unfold zF;refine ai (y:=j) rfl (ai (y:=O) rfl (ai (PK b d) (ai (y:=c) rfl (ai (y:=c) rfl (ai (PK a a) ?_)))));refine ai (EZ (kE _ _) (kE _ _)) rfl
def aV.k8 (c:aV) (a b:X):eK (c.bi a b):=E6 _ _
theorem w9 {x:aV} {i k I P:X} (c:x.rows[i]?=Y I) (d:x.rows[k]?=Y P):∃a,ao (fS x).2.2.1 (i:Z)=Y a/\ao a (k:Z)=Y (az (x.s I P)):=by
 refine⟨x.rows.map λb=>az (x.s I b),?_,?_⟩
 ·rw[fg];show(x.rows.map _)[i]?=_;grind
 grind [fg]
def aea {c:aV} (m:c.okd) (e:c.rows[q]?=Y b) (g:c.rows[f]?=Y a) (h:hd) (k:h.2.1=[c.bi a a]):uI (h,fS c,[(f:Z)],(q:Z),())=Y ((c.lc [a]).map (· b),()):=by
 obtain⟨n,i,j⟩:=w9 e g;have l:=m b (aig e) a (aig g);unfold uI;refine ai i (ai (y:=(f:Z)) rfl (ai j ?_));rw[aY (by rfl)];rw[k];refine ai (y:=c.bi a a) rfl (ai (V5 (c.k8 a a)) ?_);dsimp only;rw[cQ];show(if k5 (c.bi a a)=0 then _ else _)=Y ([if k5 (c.bi a a)=0 then 0 else gr (c.s b a) (a6 (c.bi a a)) 0],());by_cases d:k5 (c.bi a a)=0
 ·rw[au d,au d]
 rw[ax d,ax d];exact ai (y:=c.bi a a) rfl (ai (k9 (c.k8 a a)) (ai (Jl l (gO _)) rfl))
def aeb {c:aV} (n:c.okd) {o g:X} (d:c.rows[o]?=Y f) (i:c.rows[g]?=Y a) (j:c.rows[q]?=Y b) (h:hd) (e:h.2.1=c.gF [a,b]):uI (h,fS c,[(g:Z),(q:Z)],(o:Z),())=Y ((c.lc [a,b]).map (· f),()):=by obtain⟨u,p,r⟩:=w9 d i;obtain⟨v,s,t⟩:=w9 d j;have l:=n f (i4 d) a (i4 i);have m:=n f (i4 d) b (i4 j);have e:h.2.1=[c.bi a a,c.bi b a,c.bi b b]:=e;unfold uI;refine ai p (ai (y:=(g:Z)) rfl (ai r ?_));rw[a1 (by rfl)];rw[e];refine ai s (ai (y:=(q:Z)) rfl (ai t ?_));refine ai (y:=c.bi a a) rfl (ai (k9 (c.k8 _ _)) (ai (y:=c.bi b a) rfl (ai (k9 (c.k8 _ _)) (ai (y:=c.bi b b) rfl (ai (k9 (c.k8 _ _)) ?_)))));refine ai (kI l (gO _)) (ai (kI m (gO _)) (ai (EZ (kE _ _) (kE _ _)) ?_));refine ai (kI m (gO _)) (ai (kI l (gO _)) (ai (EZ (kE _ _) (kE _ _)) ?_));have k:=abC (c.k8 a a) (c.k8 b a) (c.k8 b b);refine ai k (ai (Jl (kT _ _) (kT _ _)) (ai k (ai (Jl (kT _ _) (kT _ _)) rfl)))
def Vc {e:hd} (h:al e.1=1) (m:e.2.2.2.1=[d]) (l:e.2.1=[O]) (i:d[a]?=Y c) (k:d[b]?=Y j) (n:eK c) (o:eK j) (p:eK O):uH (e,(a:Z),(b:Z),())=Y (az (h3 c O j),()):=by have f:ao d (a:Z)=Y c:=(by rw[fg,i]);have g:ao d (b:Z)=Y j:=(by rw[fg,k]);unfold uH;dsimp only;rw[m,l,h];refine ai (y:=d) rfl (ai f (ai (k9 n) (ai (y:=d) rfl (ai g (ai (k9 o) (ai (y:=O) rfl (ai (k9 p) (ai (kI (gO _) (gO _)) (ai (kI (kE _ _) (gO _)) ?_)))))))));rw[a1 (by rfl)];rfl
def Vd {i:hd} {k f l g:Z} (q:al i.1=2) (w:i.2.2.2.1=[d,h]) (u:i.2.1=[k,f,l]) (r:d[a]?=Y c) (s:d[b]?=Y j) (t:h[a]?=Y O) (v:h[b]?=Y g) (z:eK c) (A:eK j) (B:eK O) (F:eK g) (C:eK k) (D:eK f) (E:eK l):uH (i,(a:Z),(b:Z),())=Y (az (cK (cK (cK (h3 c k j) (h3 c f g)) (h3 O f j)) (h3 O l g)),()):=by have m:ao d (a:Z)=Y c:=(by rw[fg,r]);have n:ao d (b:Z)=Y j:=(by rw[fg,s]);have o:ao h (a:Z)=Y O:=(by rw[fg,t]);have p:ao h (b:Z)=Y g:=(by rw[fg,v]);have e:=λ(x i:ahT)=>kE x i;unfold uH;dsimp only;rw[w,u,q];refine ai (y:=d) rfl (ai m (ai (k9 z) (ai (y:=d) rfl (ai n (ai (k9 A) (ai (y:=k) rfl (ai (k9 C) (ai (kI (gO _) (gO _)) (ai (kI (e _ _) (gO _)) ?_)))))))));rw[aY (by rfl)];refine ai (y:=((bq,((bq,(([]:ahZ),())),((0:Z),()))),az (cK (cK (cK (h3 c k j) (h3 c f g)) (h3 O f j)) (h3 O l g)),())) ?_ bn;refine ai (y:=h) rfl (ai o (ai (k9 B) (ai (y:=h) rfl (ai p (ai (k9 F) (ai (y:=f) rfl (ai (k9 D) (ai (y:=l) rfl (ai (k9 E) ?_)))))))));refine ai (kI (gO _) (gO _)) (ai (kI (e _ _) (gO _)) (ai (AM (e _ _) (e _ _)) ?_));refine ai (kI (gO _) (gO _)) (ai (kI (e _ _) (gO _)) (ai (AM (kT _ _) (e _ _)) ?_));refine ai (kI (gO _) (gO _)) (ai (kI (e _ _) (gO _)) (ai (AM (kT _ _) (e _ _)) rfl))
theorem AC {l:ahY} (o:l.length<=1000) (a:X):∃e:Z,q4 (a5 l,(a:Z),())=Y (e,())/\(a∈l->∃b:X,e=b/\l[b]?=Y a)/\(a∉l->e=-1):=by
 suffices h:ae (q4 (a5 l,(a:Z),())) λd=>(a∈l->∃b:X,d.1=b/\l[b]?=Y a)/\(a∉l->d.1=-1) by obtain⟨⟨e,_⟩,k,m⟩:=h;grind
 have aq:al (a5 l)=(l.length:Z):=(by rw[bh,fJ]);unfold q4;refine bE (P:=λd=>(d=.inl ()/\a∉l)\/∃b:X,d=.inr ((b:Z),())/\l[b]?=Y a) ?_ ?_
 ·refine bO l.length (λc i=>i=((c:Z),())/\a∉l.take c) ⟨bn,ac⟩ ?_ ?_
  ·rintro c _ n ⟨rfl,f⟩;dsimp only;rw[aq,aY (aK (aa:(c:Z)<(l.length:Z))),bk aa];refine bz (y:=(l[c]:Z)) ?_ ?_
   ·rw[fg];show(l.map λ(j:X)=>(j:Z))[c]?=_;grind
   rw[gD,cQ];refine ah9 (λg=>?_) (λg=>?_)
   ·grind [bS,bu]
   grind [bu,ct,bS,ah4]
  rintro _ ⟨rfl,f⟩;dsimp only;rw[cA] at f;rw[aq,a1 (aI (aa:¬(l.length:Z)<(l.length:Z)))];grind [bu]
 grind [bu,aig]
def gb (d:aV) (c:ahY) (b:X):ahY:=((bI b).filter λa=>br (a∉c)).map λa=>d.rows.getD a 0
theorem JD (b:aV) (c:a∈e):gb b e (a+1)=gb b e a:=by grind [ais,gb]
theorem JE (b:aV) (c:a∉e):gb b e (a+1)=gb b e a++[b.rows.getD a 0]:=by grind [ais,gb]
theorem Fa (c:aV) (b:ahY) (a:X):(gb c b a).length<=a:=by grind [cz,air,cm,gb]
def kl (a:aV) (b:ahY) (c:X):de:=(a5 (gb a b c),ay ((a.full:Z)-(b.length:Z)),(gb a b c).map (λd=>(gb a b a.rows.length).map λe=>az (a.s d e)),())
theorem ael {a:aV} (C:a.rows.length<=1000) (l:e.length<=1000):Dt (fS a,a5 e,())=Y (kl a e a.rows.length,()):=by
 have aq:al (fS a).1=(a.rows.length:Z):=(by rw[bh];exact b3 _ (fJ _));have m:al (a5 e)=(e.length:Z):=(by rw[bh,fJ]);have q:∀b,b<a.rows.length->ao (fS a).1 (b:Z)=Y ((a.rows.getD b 0:X):Z):=λb j=>(by rw[fg];show(a.rows.map λ(a:X)=>(a:Z))[b]?=_;grind);unfold Dt;refine bQ.1 ?_;dsimp only;rw[m];refine bE (P:=λf=>∃c,f=(c,kl a e a.rows.length,())) ?_ (by grind [bu]);refine bO a.rows.length (λb f=>∃c,f=((b:Z),c,kl a e b,())) ⟨_,bn⟩ ?_ ?_
 rotate_left
 ·rintro _ ⟨c,rfl⟩;dsimp only;rw[aq,a1 (aI (aa:¬(a.rows.length:Z)<(a.rows.length:Z)))];grind [bu]
 rintro b _ j ⟨c,rfl⟩;dsimp only;rw[aq,aY (aK (aa:(b:Z)<(a.rows.length:Z))),bk aa];refine bE (P:=λf=>∃c,f=(c,kl a e (b+1),())) ?_ (by grind [bu]);obtain⟨y,o,p,A⟩:=AC l b;refine bz o ?_;dsimp only;have D:=Fa a e b;by_cases h:b∈e
 ·obtain⟨d,rfl,_⟩:=p h;rw[aY (aK (aa:(d:Z)>=0))];grind [JD,bu,kl]
 rw[a1 (aI (show¬y>=0 by grind))];refine bz (q b j) ?_;have E:(a5 (gb a e b)).length=(gb a e b).length:=fJ _;rw[da (by show(a5 (gb a e b)).length+1<=_;omega),aC];refine bE (P:=λf=>∃c,f=(c,((kl a e b).1++[((a.rows.getD b 0:X):Z)],(kl a e b).2),(gb a e a.rows.length).map (λg=>az (a.s (a.rows.getD b 0) g)),())) ?_ ?_
 ·refine bO a.rows.length (λd f=>∃c,f=((d:Z),c,((kl a e b).1++[((a.rows.getD b 0:X):Z)],(kl a e b).2),(gb a e d).map (λg=>az (a.s (a.rows.getD b 0) g)),())) ⟨c,bn⟩ ?_ ?_
  ·rintro d _ B ⟨c,rfl⟩;dsimp only;rw[aY (aK (aa:(d:Z)<(a.rows.length:Z))),bk aa];refine bE (P:=λf=>∃c,f=(c,((kl a e b).1++[((a.rows.getD b 0:X):Z)],(kl a e b).2),(gb a e (d+1)).map (λg=>az (a.s (a.rows.getD b 0) g)),())) ?_ (by grind [bu]);obtain⟨z,r,t,G⟩:=AC l d;refine bz r ?_;dsimp only;by_cases n:d∈e
   ·obtain⟨u,rfl,_⟩:=t n;rw[a1 (aI (aa:¬(u:Z)<0))];grind [JD,bu]
   rw[aY (aK (show z<0 by grind))];obtain⟨H,v,w⟩:=w9 (x:=a) (i:=b) (k:=d) (I:=a.rows.getD b 0) (P:=a.rows.getD d 0) (by grind) (by grind);have:=Fa a e d;refine bz v (bz w ?_);rw[da (by grind),aC];grind [JE,bu]
  rintro _ ⟨c,rfl⟩;dsimp only;rw[a1 (aI (aa:¬(a.rows.length:Z)<(a.rows.length:Z)))];grind [bu]
 rintro _ ⟨c,rfl⟩;dsimp only;have F:(kl a e b).2.2.1.length=(gb a e b).length:=cm ..;rw[da (by grind),bN];refine bu.2 ⟨c,?_⟩;unfold kl;rw[JE a h,oq,akT];rfl
structure mj (x:aV) (l P:ahY):Prop where
 jw:(∃k a,l=[k]/\P=[a]/\x.rows[k]?=Y a)\/∃k j a b,l=[k,j]/\P=[a,b]/\x.rows[k]?=Y a/\x.rows[j]?=Y b
theorem mj.len {a:aV} (c:mj a e n):e.length=n.length/\e.length<=2/\0<e.length/\(a.lc n).length=e.length:=by rcases c.jw with⟨d,b,rfl,rfl,_⟩|⟨d,g,b,f,rfl,rfl,_⟩<;>exact⟨bn,ac,ac,bn⟩
theorem mj.get {d:aV} (f:mj d e n) (j:a<e.length):∃c b,e[a]?=Y c/\n[a]?=Y b/\d.rows[c]?=Y b:=by
 rcases f.jw with⟨c,b,rfl,rfl,g⟩|⟨c,k,b,h,rfl,rfl,g,i⟩
 ·grind
 grind
def mj.ad9 {c:aV} (k:mj c n e) (i:c.okd) (g:c.rows[b]?=Y a) (d:hd) (h:d.2.1=c.gF e):uI (d,fS c,a5 n,(b:Z),())=Y ((c.lc e).map (· a),()):=by
 rcases k.jw with⟨m,j,rfl,rfl,f⟩|⟨m,p,j,o,rfl,rfl,f,l⟩
 ·exact aea i g f d h
 exact aeb i g f l d h
theorem Nx (e:aV) (d:ahY):∀c∈e.lc d,∀b,eK (c b):=by
 intro c a b;unfold aV.lc at a;split at a
 ·obtain rfl:=ah4.1 a;dsimp only;split
  ·exact⟨ab,ab⟩
  exact AI 0
 ·simp only[fV,List.not_mem_nil,or_false] at a;rcases a with rfl|rfl
  ·exact AI 0
  exact AI 0
 grind
def hH (a:aV) (e b:ahY) (d:X):ew:=(a.lc b).map λc=>(gb a e d).map c
theorem mj.form {a:aV} (j:mj a e n) {q:hd} (f:al q.1=(e.length:Z)) (h:q.2.2.2.1=hH a e n a.rows.length) (g:q.2.1=a.gF n) {i m I M:X} (r:(gb a e a.rows.length)[i]?=Y I) (s:(gb a e a.rows.length)[m]?=Y M):uH (q,(i:Z),(m:Z),())=Y (az (nz (a.gF n) (a.lc n) I M),()):=by
 have d:=Nx a n;have c:∀b:X->Z,((gb a e a.rows.length).map b)[i]?=Y (b I)/\((gb a e a.rows.length).map b)[m]?=Y (b M):=λb=>⟨by grind,by grind⟩;rcases j.jw with⟨l,b,rfl,rfl,k⟩|⟨l,t,b,o,rfl,rfl,k,p⟩
 ·exact Vc f h g (c _).1 (c _).2 (d _ (gd.2 bn) I) (d _ (gd.2 bn) M) (a.k8 _ _)
 exact Vd f h g (c _).1 (c _).2 (c _).1 (c _).2 (d _ (nb ..) I) (d _ (nb ..) M) (d _ (hY _ (gd.2 bn)) I) (d _ (hY _ (gd.2 bn)) M) (a.k8 _ _) (a.k8 _ _) (a.k8 _ _)
theorem acN {d:Type} {b a:bm d} (h:b.length=a.length) {k:X} (g:k<a.length) {c:d} (i:b[k]?=Y c):(b.take k++a.drop k).set k c=b.take (k+1)++a.drop (k+1):=by have e:(b.take k).length=k:=(by grind);have f:a.drop k=a[k]::a.drop (k+1):=vV g;rw[List.set_append,ax aa,e,oM,f];grind [ct,aiB]
theorem Xd {c:Type} {b a:bm c} (d:b.length=a.length) {k:X} (e:k<a.length):(b.take k++a.drop k)[k]?=Y a[k]:=by grind
theorem Ws (b:aV) (a:ahY):(b.lc a).length<=2:=by unfold aV.lc;grind
theorem U1 {b:aV} {d:ahY} (ap:a<b.rows.length) (av:b.rows.length<=1000) (am:a∉d) {t:de} {u:hd} {v:de} {p q s:aA}:ae (loop (σ:=qK) (ρ:=(nj⊕(nj⊕(qK⊕(nj⊕(de×hd×bA×bt)))))) (λ(j,D,E,w,f,_)=>
 bif br (j<al ((b.lc e).map (· (b.rows.getD a 0)))) then
 (ao ((b.lc e).map (· (b.rows.getD a 0))) j).bind λR=>
 (q0 (R,())).bind λ(N,_)=>
  bif !N then
 Y (.inr (.inr (.inr (.inr (.inr (w,f,bq,())))))) else
 (bj (f.2.2.2.1).length j).bind λC=>
 (ao ((b.lc e).map (· (b.rows.getD a 0))) j).bind λF=>
 (a9 f.2.2.2.1 C λG=>Y G).bind λO=>
 (cD (O.length+([F]).length)).bind λ_=>
 (bj (f.2.2.2.1).length j).bind λo=>
  bif bH C o&&bp then
 (a9 f.2.2.2.1 o λH=>Y H).bind λP=>
 (((((a9 f.2.2.2.1 o λ_=>Y ((f.2.2.2.1).set o (P++[F]))).map λS=>(S,f.2.2.2.2)).map λT=>(f.2.2.1,T)).map λU=>(f.2.1,U)).map λV=>(f.1,V)).bind λad=>
 Y (.inl (aP j,D,E,w,ad,())) else bo else
 Y (.inr (.inl (D,E,w,f,())))) (0,t,u,v,(p,q,s,hH b d e a,()),())) λl=>
  ((∀h∈b.lc e,bd (h (b.rows.getD a 0))≠2047)/\l=.inl (t,u,v,(p,q,s,hH b d e (a+1),()),()))\/((∃h∈b.lc e,bd (h (b.rows.getD a 0))=2047)/\∃Q M,l=.inr (.inr (.inr (.inr (Q,M,bq,()))))):=by
 have a0:=Ws b e;generalize an:b.rows.getD a 0=g;have bl:hH b d e (a+1)=(b.lc e).map λh=>(gb b d a).map h++[h g]:=(by grind [aii,JE,hH]);have A:(hH b d e (a+1)).length=(hH b d e a).length:=(by grind [cm,hH]);have a3:(hH b d e a).length=(b.lc e).length:=(by grind);refine bO (b.lc e).length (λc l=>l=((c:Z),t,u,v,(p,q,s,(hH b d e (a+1)).take c++(hH b d e a).drop c,()),())/\∀h∈(b.lc e).take c,bd (h g)≠2047) ⟨ac,ac⟩ ?_ ?_
 ·rintro c _ z ⟨rfl,I⟩;dsimp only;rw[aY (aK (show(c:Z)<al ((b.lc e).map (· g)) by grind))];have x:ao ((b.lc e).map (· g)) (c:Z)=Y ((b.lc e)[c] g):=by
   grind [fg,bS]
  have J:=b7 z;refine bz x (bz (AR (Nx b e _ J g)) ?_);dsimp only;by_cases l:bd ((b.lc e)[c] g)=2047
  ·rw[aY (by grind)];grind [bu]
  rw[a1 (by grind)];have a4:((hH b d e (a+1)).take c++(hH b d e a).drop c).length=(b.lc e).length:=(by grind);have r:=Xd A (k:=c) aa;have B:(hH b d e a)[c]'(by omega)=(gb b d a).map (b.lc e)[c]:=by grind [hH]
  have y:=eS (n:=((hH b d e (a+1)).take c++(hH b d e a).drop c).length) (i:=c) aa;have bx:=Fa b d a;refine bz y (bz x ?_);rw[gq r,aC,B];rw[da (by grind),aC];refine bz y ?_;rw[aY ac,gq r,aC,B,gq r];have L:(hH b d e (a+1))[c]?=Y ((gb b d a).map (b.lc e)[c]++[(b.lc e)[c] g]):=(by grind);have K:=acN A (k:=c) aa L;rw[K,bk aa];refine bu.2 ⟨bn,λh m=>?_⟩;rw[hN,ba z] at m;rcases hX.1 m with m|m
  ·grind
  simp_all
 rintro _ ⟨rfl,I⟩;dsimp only;rw[a1 (aI (show¬((b.lc e).length:Z)<al ((b.lc e).map (· g)) by grind))];grind [ch,alR,bu,cA]
def lg (d:aV) (e a:ahY) (f g:X):bm (bm ga):=aB a.length λb=>aB a.length λc=>
 if b<f\/(b=f/\c<g) then az (cK (d.s (a.getD b 0) (a.getD c 0)) (c7 (nz (d.gF e) (d.lc e) (a.getD b 0) (a.getD c 0)))) else az (d.s (a.getD b 0) (a.getD c 0))
theorem El (a:ahY) (b:X->k):a.map b=aB a.length λc=>b (a.getD c 0):=by grind [bS,lE,cm,List.ext_getElem,cY]
theorem adZ (d:aV) (e a:ahY):lg d e a 0 0=a.map λb=>a.map λc=>az (d.s b c):=by unfold lg;rw[El a (λb=>a.map λc=>az (d.s b c))];simp_all [ax,c9,El]
theorem adX (d:aV) (b a:ahY) (c:X):lg d b a c a.length=lg d b a (c+1) 0:=by unfold lg;refine c9 λg e=>c9 λh f=>?_;grind
theorem adW (a:aV) (c b:ahY):lg a c b b.length 0=b.map λd=>b.map λe=>az (cK (a.s d e) (c7 (nz (a.gF c) (a.lc c) d e))):=by unfold lg;rw[El b (λd=>b.map λe=>az (cK (a.s d e) (c7 (nz (a.gF c) (a.lc c) d e))))];refine c9 λg f=>?_;simp_all [au,c9,El]
theorem adY (d:aV) (e c:ahY) (i:a<c.length) (j:b<c.length):∃f,(lg d e c a b)[a]?=Y f/\f.length=c.length/\f[b]?=Y (az (d.s (c.getD a 0) (c.getD b 0)))/\(lg d e c a b).set a (f.set b (az (cK (d.s (c.getD a 0) (c.getD b 0)) (c7 (nz (d.gF e) (d.lc e) (c.getD a 0) (c.getD b 0))))))=lg d e c a (b+1):=by
 refine⟨_,jl i,cY _ _,?_,?_⟩
 ·rw[jl j,ax aa]
 unfold lg;rw[hA,hA];refine c9 λk m=>?_;by_cases g:k=a
 ·subst g;rw[gI];refine c9 λl n=>?_;by_cases h:l=b
  ·simp_all [gI,au]
  rw[hb _ _ h];grind
 simp_all [hb,c9,au,ax]
def Hk (a:aV) (b c:ahY):de×hd×bA×bt:=
 ((
  a5 (gb a b a.rows.length),ay ((a.full:Z)-(b.length:Z)),(gb a b a.rows.length).map (λd=>(gb a b a.rows.length).map λe=>az (cK (a.s d e) (c7 (nz (a.gF c) (a.lc c) d e)))),()),
  (a5 c,a.gF c,a5 (gb a b a.rows.length),hH a b c a.rows.length,()),bp,())
theorem acb {a:aV} (N:a.okd) (an:a.rows.length<=1000) {b:ahY} (w:mj a e b):ae (w2 (fS a,a5 e,())) λE=>
  (((∀d∈a.lc b,∀i,i<a.rows.length->i∉e->bd (d (a.rows.getD i 0))≠2047)/\E=Hk a e b)\/((∃d∈a.lc b,∃i,i<a.rows.length/\i∉e/\bd (d (a.rows.getD i 0))=2047)/\E.2.2.1=bq)):=by
 obtain⟨fp,fn,cv,c1⟩:=w.len;have aq:al (fS a).1=(a.rows.length:Z):=(by rw[bh];exact b3 _ (fJ _));have F:al (a5 e)=(e.length:Z):=(by rw[bh,fJ]);have dl:∀f d:X,a.rows[f]?=Y d->ao (fS a).1 (f:Z)=Y (d:Z):=λf d o=>(by rw[fg];show(a.rows.map λ(a:X)=>(a:Z))[f]?=_;grind);have t:∀k f:X,e[k]?=Y f->ao (a5 e) (k:Z)=Y (f:Z):=λk f cs=>(by rw[fg];show(e.map λ(a:X)=>(a:Z))[k]?=_;grind);unfold w2;refine bz (ael an aa) ?_;dsimp only;have fs:=Fa a e a.rows.length;refine bE (P:=λq=>∃p r,q=(p,r,kl a e a.rows.length,(a5 b,([]:aA),a5 (gb a e a.rows.length),bJ e.length ([]:aA),()),())) ?_ ?_
 ·refine bO e.length (λk q=>∃p r,q=((k:Z),p,r,kl a e a.rows.length,(a5 (b.take k),([]:aA),a5 (gb a e a.rows.length),bJ k ([]:aA),()),())) ⟨_,_,bn⟩ ?_ ?_
  ·rintro k _ ds ⟨p,r,rfl⟩;dsimp only;obtain⟨f,d,aw,av,u⟩:=w.get ds;rw[F,aY (aK (aa:(k:Z)<(e.length:Z))),bk aa];refine bz (t k f aw) (bz (dl f d u) ?_);rw[da (by grind [fJ]),bN,da (by grind),bN];refine bu.2 ⟨p,r,?_⟩;rw[ct,av];simp only[oq,Option.toList];rw[show bJ (k+1) ([]:aA)=bJ k []++[[]] from List.replicate_succ'];rfl
  rintro _ ⟨p,r,rfl⟩;dsimp only;rw[F,a1 (aI (aa:¬(e.length:Z)<(e.length:Z))),ch aa];grind [bu]
 rintro _ ⟨p,r,rfl⟩;dsimp only;obtain⟨z,em,aw,av,u⟩:=w.get cv;have K:∀{f g d C:X},a.rows[f]?=Y d->a.rows[g]?=Y C->∃v,ao (fS a).2.2.1 (f:Z)=Y v/\ao v (g:Z)=Y (az (a.s d C))/\cP (a.s d C):=λo x=>(by obtain⟨v,O,Q⟩:=w9 o x;exact⟨v,O,Q,N _ (aig o) _ (aig x)⟩);obtain⟨v,O,Q,d1⟩:=K u u;refine bz (t 0 z aw) (bz O (bz (t 0 z aw) (bz Q (bz (E9 d1) ?_))));dsimp only;refine bE (P:=λq=>q=(p,r,kl a e a.rows.length,(a5 b,a.gF b,a5 (gb a e a.rows.length),hH a e b 0,()),())) ?_ ?_
 ·have a4:bJ e.length ([]:aA)=hH a e b 0:=by
   unfold hH gb;rw[<-c1];exact alY.symm
  rw[a4,F];rcases w.jw with⟨f,d,rfl,rfl,y⟩|⟨f,g,d,C,rfl,rfl,y,H⟩
  ·rw[a1 (by rfl)];have:z=f:=(gC aw).symm;subst this;rw[u] at y;cases y;exact bu.2 bn
  have:z=f:=(gC aw).symm;subst this;rw[u] at y;cases y;obtain⟨fz,d2,d3,d4⟩:=K H u;obtain⟨fT,d5,d6,d7⟩:=K H H;rw[aY (by rfl)];refine bz (t 1 g bn) (bz d2 (bz (t 0 z bn) (bz d3 (bz (E9 d4) (bz (t 1 g bn) (bz d5 (bz (t 1 g bn) (bz d6 (bz (E9 d7) ?_)))))))));rw[da ac,aC];exact bu.2 bn
 rintro _ rfl;dsimp only;refine bE (P:=λq=>((∀d∈a.lc b,∀i,i<a.rows.length->i∉e->bd (d (a.rows.getD i 0))≠2047)/\q=.inl (p,r,kl a e a.rows.length,(a5 b,a.gF b,a5 (gb a e a.rows.length),hH a e b a.rows.length,()),()))\/((∃d∈a.lc b,∃i,i<a.rows.length/\i∉e/\bd (d (a.rows.getD i 0))=2047)/\∃B A,q=.inr (B,A,bq,()))) ?_ ?_
 ·refine bO a.rows.length (λi q=>q=((i:Z),p,r,kl a e a.rows.length,(a5 b,a.gF b,a5 (gb a e a.rows.length),hH a e b i,()),())/\∀d∈a.lc b,∀g,g<i->g∉e->bd (d (a.rows.getD g 0))≠2047) ⟨bn,λd o g co=>absurd co aa⟩ ?_ ?_
  ·rintro i _ D ⟨rfl,bl⟩;dsimp only;rw[aq,aY (aK (aa:(i:Z)<(a.rows.length:Z))),bk aa];obtain⟨E,d8,d9,ft⟩:=AC (l:=e) aa i;refine bE (P:=λq=>(q=.inl (p,r,kl a e a.rows.length,(a5 b,a.gF b,a5 (gb a e a.rows.length),hH a e b (i+1),()),())/\∀d∈a.lc b,∀g,g<i+1->g∉e->bd (d (a.rows.getD g 0))≠2047)\/((∃d∈a.lc b,∃i,i<a.rows.length/\i∉e/\bd (d (a.rows.getD i 0))=2047)/\∃B A,q=.inr (.inr (.inr (B,A,bq,()))))) ?_ ?_
   ·refine bz d8 ?_;dsimp only;by_cases G:i∈e
    ·obtain⟨g,rfl,_⟩:=d9 G;rw[aY (aK (aa:(g:Z)>=0))];refine bu.2 (.inl ⟨?_,λd o m L ap=>?_⟩)
     ·simp_all [JD,hH]
     grind
    rw[a1 (aI (show¬E>=0 by grind))];have J:a.rows[i]?=Y (a.rows.getD i 0):=(by simp_all);refine bz (w.ad9 N J _ rfl) ?_;dsimp only;refine bE (U1 D an G) ?_;rintro _ (⟨bx,rfl⟩|⟨⟨d,o,x⟩,el,ek,rfl⟩)
    ·refine bu.2 (.inl ⟨bn,λd o m L ap=>?_⟩);grind
    exact bu.2 (.inr ⟨⟨d,o,i,D,G,x⟩,el,ek,bn⟩)
   rintro _ (⟨rfl,fl⟩|⟨x,B,A,rfl⟩)
   ·grind [bu]
   grind [bu]
  rintro _ ⟨rfl,bl⟩;dsimp only;rw[aq,a1 (aI (aa:¬(a.rows.length:Z)<(a.rows.length:Z)))];grind [bu]
 rintro _ (⟨bx,rfl⟩|⟨x,B,A,rfl⟩)
 rotate_left
 ·grind [bu]
 dsimp only;have a3:kl a e a.rows.length=(a5 (gb a e a.rows.length),ay ((a.full:Z)-(e.length:Z)),lg a b (gb a e a.rows.length) 0 0,()):=(by rw[adZ];rfl);have ci:=λi m I M J a0=>w.form (q:=(a5 b,a.gF b,a5 (gb a e a.rows.length),hH a e b a.rows.length,())) (i:=i) (m:=m) (I:=I) (M:=M) (by grind [fJ,bh]) rfl rfl J a0;have V:∀d∈gb a e a.rows.length,d∈a.rows:=λd o=>(by unfold gb at o;obtain⟨f,cs,rfl⟩:=List.mem_map.1 o;simp_all);rw[a3];generalize ex:gb a e a.rows.length=c at*;refine bE (P:=λq=>∃h j,q=(h,j,(a5 c,ay ((a.full:Z)-(e.length:Z)),lg a b c c.length 0,()),(a5 b,a.gF b,a5 c,hH a e b a.rows.length,()),())) ?_ ?_
 rotate_left
 ·rintro _ ⟨h,j,rfl⟩;simp_all [adW,bu,Hk]
 have eq:∀S:Z×bm (bm ga)×bt,al ((a5 c,S):de).1=(c.length:Z):=λS=>(by grind [bh,fJ]);refine bO c.length (λi q=>∃h j,q=((i:Z),h,j,(a5 c,ay ((a.full:Z)-(e.length:Z)),lg a b c i 0,()),(a5 b,a.gF b,a5 c,hH a e b a.rows.length,()),())) ⟨_,_,bn⟩ ?_ ?_
 rotate_left
 ·rintro _ ⟨h,j,rfl⟩;dsimp only;rw[bh,fJ,a1 (aI (aa:¬(c.length:Z)<(c.length:Z)))];grind [bu]
 rintro i _ D ⟨h,j,rfl⟩;dsimp only;rw[bh,fJ,aY (aK (aa:(i:Z)<(c.length:Z))),bk aa];refine bE (P:=λq=>∃h j,q=(h,j,(a5 c,ay ((a.full:Z)-(e.length:Z)),lg a b c i c.length,()),(a5 b,a.gF b,a5 c,hH a e b a.rows.length,()),())) ?_ ?_
 rotate_left
 ·rintro _ ⟨h,j,rfl⟩;refine bu.2 ⟨h,j,?_⟩;rw[adX]
 refine bO c.length (λm q=>∃h j,q=((m:Z),h,j,(a5 c,ay ((a.full:Z)-(e.length:Z)),lg a b c i m,()),(a5 b,a.gF b,a5 c,hH a e b a.rows.length,()),())) ⟨_,_,bn⟩ ?_ ?_
 rotate_left
 ·rintro _ ⟨h,j,rfl⟩;dsimp only;rw[a1 (aI (show¬(c.length:Z)<al (a5 c) by simp_all))];grind [bu]
 rintro m _ L ⟨h,j,rfl⟩;dsimp only;rw[aY (aK (show(m:Z)<al (a5 c) by simp_all)),bk aa];obtain⟨v,R,f1,dc,f2⟩:=adY a b c D L;have ap:(lg a b c i m).length=c.length:=cY _ _;have T:c[i]?=Y (c.getD i 0):=(by simp_all);have U:c[m]?=Y (c.getD m 0):=(by simp_all);have ad:=eS (n:=(lg a b c i m).length) (i:=i) aa;have am:=eS (n:=v.length) (i:=m) aa;have c2:cP (a.s (c.getD i 0) (c.getD m 0)):=N _ (V _ (aig T)) _ (V _ (aig U));have ce:cP (nz (a.gF b) (a.lc b) (c.getD i 0) (c.getD m 0)):=by
  unfold nz;split
  ·exact kE _ _
  ·exact kT _ _
  intro f0 d0;cases d0;exact c8 _
 refine bz ad (bz ad ?_);rw[gq R,aC];refine bz am ?_;rw[gq R,gq dc,aC];refine bz (ci i m _ _ T U) ?_;refine bz (EZ c2 ce) ?_;refine bz am ?_;rw[gq R,gq dc];refine bu.2 ⟨h,j,?_⟩;grind
def ja (a:a8):hd:=(a5 a.cF,a.d,a5 a.rows,a.l.map (λb=>a.rows.map b),())
theorem act (a:ahY):a=(bI a.length).map λb=>a.getD b 0:=by refine yl ac λe c d=>?_;grind
theorem mj.mem {b:aV} (f:mj b n e) (m:b.rows.Nodup) (l:a<b.rows.length):b.rows.getD a 0∈e↔a∈n:=by
 have h:b.rows.getD a 0=b.rows[a]:=(by grind);have p:∀{d c:X},b.rows[d]?=Y c->(b.rows[a]=c↔a=d):=λ{d c} k=>(by grind [ajl,aiF]);rw[h];rcases f.jw with⟨d,c,rfl,rfl,g⟩|⟨d,o,c,i,rfl,rfl,g,j⟩
 ·grind
 grind
def mj.rest {a:aV} (d:mj a n e) (f:a.rows.Nodup):gb a n a.rows.length=a.rows.filter λg=>br (g∉e):=by
 conv=>rhs;rw[act a.rows]
 unfold gb;rw[List.filter_map];congr 1;refine py λc b=>?_;have b:=ig.1 b;show br (c∉n)=br (a.rows.getD c 0∉e);rw[cx,d.mem f b]
theorem aca {a:aV} (w:a.okd) (s:a.rows.length<=1000) (k:a.rows.Nodup) (f:mj a n e) (y:a.full<=a.rows.length) (z:n.length<=a.full):ae (w2 (fS a,a5 n,())) λm=>((a.eM e).fin/\m=(fS (a.elim e),ja (a.eM e),bp,()))\/(¬(a.eM e).fin/\m.2.2.1=bq):=by
 have t:=f.rest k;have q:(a.eM e).fin↔∀c∈a.lc e,∀b,b<a.rows.length->b∉n->bd (c (a.rows.getD b 0))≠2047:=by
  constructor
  ·intro j c h b d o;refine j c h _ (hq.2 ⟨?_,ah3 (mt (f.mem k d).1 o)⟩);grind
  intro j c h b d;have d:b∈a.rows.filter λb=>br (b∉e):=d;obtain⟨i,g⟩:=hq.1 d;obtain⟨l,p,rfl⟩:=ht.1 i;have r:a.rows.getD l 0=a.rows[l]:=(by grind);have g:=of_decide_eq_true g;rw[<-r] at g|-;exact j c h l p (mt (f.mem k p).2 g)
 refine(acb w s f).mono λm u=>?_;rcases u with⟨i,rfl⟩|⟨⟨c,h,b,d,o,x⟩,g⟩
 ·refine .inl ⟨q.2 i,?_⟩;have v:ay ((a.full:Z)-(n.length:Z))=((a.full-e.length:X):Z):=by
   have:=f.len.1;grind [cL]
  unfold Hk;rw[v];unfold hH;rw[t];rfl
 grind
def lf (a b:X->Rat):X->Rat
 |0=>0
 |n+1=>lf a b n+a n*b n
def m5 (c:X) (b:ahY):ahY:=b.filter λa=>br (a≠c)
def W8:a∈m5 b e↔a∈e/\a≠b:=by simp[m5]
def XF (b:e.Nodup):(m5 a e).Nodup:=b.sublist tL
def aem (c:a∉e):m5 a e=e:=mO.2 λf d=>ah3 λb=>c (b▸d)
def Ru {b:X}:∀{a:ahY},a.Nodup->b∈a->(m5 b a).length+1=a.length
 |[],_,d=>by simp at d
 |i::a,e,d=>by
  rw[ko] at e;by_cases c:i=b
  ·subst c;have:m5 i (i::a)=m5 i a:=(by simp[m5]);rw[this,aem e.1,iZ]
  have:m5 b (i::a)=i::m5 b a:=(by simp[m5,c]);rw[this,iZ,iZ,Ru e.2 (by simpa[Ne.symm c] using d)]
theorem M2 {e:X->Z} {b:X}:∀{d:ahY} {a:Z×ahU},a.2≠Y b->(e9 e b d a).2≠Y b
 |[],_,c=>c
 |i::d,a,c=>by rw[e9];refine M2 ?_;grind
def tE (c b:ahY):Prop:=b=[]\/(∃a,b=[a]/\a∈c)\/∃a d,b=[a,d]/\a∈c/\d∈c/\a≠d
theorem Gx {c:aV}:∀{g d:ahY},(∀p∈g,p∈c.rows.take c.full)->c.gL g=Y d->tE (c.rows.take c.full) d
 |[],d,_,b=>by rw[aV.gL] at b;cases b;exact .inl bn
 |p::g,d,h,b=>by
  have f:=h p ac;rw[aV.gL] at b;split at b
  ·cases b
  split at b
  ·cases b;exact .inr (.inl ⟨p,bn,f⟩)
  split at b
  ·cases b;exact .inr (.inl ⟨p,bn,f⟩)
  rename_i i k;split at b
  ·exact Gx (λl m=>h l (by grind)) b
  rename_i e;have e:=Classical.not_not.1 e;split at b
  ·cases b
  split at b
  ·cases b;exact .inr (.inl ⟨p,bn,f⟩)
  split at b
  ·cases b;exact .inr (.inl ⟨i,bn,e⟩)
  cases b;refine .inr (.inr ⟨p,i,bn,f,e,λj=>?_⟩);subst j;exact M2 (a:=(0,bo)) ac k
theorem adL (c:b∈e) (d:f∈e) (h:b≠f):2<=e.length:=by
 match e,c,d with
 |[a],c,d=>
  grind
 |a::g::e,_,_=>simp
theorem qr.use {a:aV} (p:qr a (a.rows.take a.full) y) (r:a.full<=a.rows.length):(y=([],bq,())/\a.choose=bo)\/(y=([],bp,())/\a.choose=Y [])\/∃d i,y=(a5 d,bp,())/\mj a d i/\d.length<=a.full/\0<d.length/\a.choose=Y i:=by
 rcases p with⟨f,j⟩|⟨d,f,j,g⟩
 ·exact .inl ⟨f,j⟩
 have s:∀c∈d,a.rows[c]?=Y (a.rows.getD c 0):=λc q=>(by grind);have v:(a.rows.take a.full).length=a.full:=(by grind);rcases Gx (λe h=>h) g with b|⟨e,b,h⟩|⟨e,m,b,h,u,t⟩
 ·rw[b] at g;have:d=[]:=List.map_eq_nil_iff.1 b;subst this;exact .inr (.inl ⟨f,g⟩)
 ·obtain⟨c,rfl,q⟩:=List.map_eq_singleton_iff.1 b;refine .inr (.inr ⟨[c],[e],f,⟨.inl ⟨c,e,bn,bn,?_⟩⟩,?_,ac,by rw[<-b];exact g⟩)
  ·grind
  grind
 match d,b with
 |[c,l],b=>
  simp only[ie,ajb,hL,b9] at b;obtain⟨o,n⟩:=b;have k:=g;simp only[ie,ajb,o,n] at k;refine .inr (.inr ⟨[c,l],[e,m],f,⟨.inr ⟨c,l,e,m,bn,bn,?_,?_⟩⟩,?_,ac,k⟩)
  ·grind
  ·grind
  grind [adL,List.length_cons,List.length_nil]
structure kP (x:aV):Prop where
 okd:x.okd
 nd:x.rows.Nodup
 full:x.full<=x.rows.length
theorem DL:∀{S:ahY},S.Nodup->e.Nodup->(∀a∈e,a∈S)->(S.filter λb=>br (b∉e)).length+e.length=S.length:=by
 induction e with
 |nil=>simp_all
 |cons a e i=>
  intro S d c f;rw[ko] at c;have k:=i (S:=m5 a S) (XF d) c.2 λj h=>W8.2 ⟨f j (by grind),λg=>c.1 (g▸h)⟩;have l:=Ru d (f a ac);have m:(m5 a S).filter (λb=>br (b∉e))=S.filter λb=>br (b∉a::e):=(by unfold m5;rw[Bh];grind);grind
theorem kP.elim {a:aV} (d:kP a) {b:ahY} (h:tE (a.rows.take a.full) b):kP (a.elim b) where
 okd:=λg _ l _=>kT _ _
 nd:=d.nd.sublist tL
 full:=by
  show a.full-b.length<=(a.rows.filter λg=>br (g∉b)).length;have k:∀{c},c∈a.rows.take a.full->c∈a.rows:=λe=>vY e;have f:b.Nodup/\∀c∈b,c∈a.rows:=by
   rcases h with rfl|⟨c,rfl,e⟩|⟨c,m,rfl,e,j,i⟩
   ·grind
   ·grind
   grind
  have:=DL d.nd f.1 f.2;have:=d.full;omega
theorem xV {b:aV} (d:b.choose=Y e) (f:0<e.length):aV.run (a+1) b=if(b.eM e).fin then(aV.run a (b.elim e)).map (λc=>(c.1,b.eM e::c.2)) else bo:=by grind [aV.run]
theorem JH {b:aV} (c:b.choose=bo):aV.run (a+1) b=bo:=by rw[aV.run,c]
def Fc {b:aV} (c:b.choose=Y []):aV.run (a+1) b=Y (b,[]):=by rw[aV.run,c]
def BL {a:aV} (b:a.choose=Y e):tE (a.rows.take a.full) e:=Gx (λd c=>c) b
structure R9 (tz:aV) (n:X) (pv0:bm hd) (y:aV) (ps:bm a8) (m:X):Prop where
 w:kP y
 len:y.rows.length<=1000
 lt:y.full<m
 pl:ps.length+y.full<=tz.full
 run:aV.run n tz=(aV.run m y).map λq=>(q.1,ps++q.2)
theorem acw {g:aV} (A:kP g) (L:g.rows.length<=1000) (N:g.full<a) (l:eG) (j:bm de) {pv0:bm hd} (a4:pv0.length<=1000000):ae (loop (σ:=(bA×eG×bm de×bm hd×de×bt)) (ρ:=(bA×eG×bm de×bm hd×de×bt)) (λ(r,u,p,s,m,_)=>
 bif !r then
 (zG (m,())).bind λ(F,T,_)=>
 bB (α:=(bA×eG×bm de×bm hd×de×bt)) (bif !T then
 Y (bp,u,p,s,m,()) else
 Y (r,u,p,s,m,())) λ(B,v,q,t,n,_)=>
  bif al F==0 then
 Y (.inr (B,v,q,t,n,())) else
 (w2 (n,F,())).bind λ(H,I,U,_)=>
 bB (α:=(bA×eG×bm de×bm hd×de×de×hd×bt)) (bif !U then
 Y (bp,v,q,t,n,H,I,()) else
 Y (B,v,q,t,n,H,I,())) λ(S,ad,R,D,_,am,C,_)=>
 (cD (D.length+([C]).length)).bind λ_=>
 Y (.inl (S,ad,R,(D++[C]),am,())) else
 Y (.inr (r,u,p,s,m,()))) (bq,l,j,pv0,fS g,())) λe=>
  (∃b d,aV.run a g=Y (b,d)/\e=(bq,l,j,pv0++d.map ja,fS b,())/\kP b)\/(aV.run a g=bo/\e.1=bp):=by
 refine aik (λe=>(∃b d k,e=(bq,l,j,pv0++d.map ja,fS b,())/\R9 g a pv0 b d k)\/(aV.run a g=bo/\e.1=bp)) (λe=>if e.1=bp then 0 else e.2.2.2.2.1.2.1.toNat+1) (.inl ⟨g,[],a,ac,A,L,N,ac,ac⟩) ?_;rintro e (⟨b,d,k,rfl,c⟩|⟨an,x⟩)
 rotate_left
 ·obtain⟨ci,cv,lf,co,c1,_⟩:=e;dsimp only at x;subst x;dsimp only;rw[a1 (by rfl)];grind [bu]
 dsimp only;rw[aY (by rfl)];have a3:=c.lt;have bl:=c.pl;have bx:=A.full;obtain⟨k,rfl⟩:∃Q,k=Q+1:=⟨k-1,aa⟩;refine bE (abQ c.w.okd c.len c.w.nd c.w.full) ?_;intro cs O;rcases O.use c.w.full with⟨rfl,h⟩|⟨rfl,h⟩|⟨ce,f,rfl,z,M,a0,h⟩
 ·refine bu.2 (.inr ⟨?_,bn⟩);rw[c.run,JH h];rfl
 ·refine bu.2 (.inl ⟨b,d,?_,bn,c.w⟩);rw[c.run,Fc h];simp
 dsimp only;have ap:=z.len;refine bz (y:=(bq,l,j,pv0++d.map ja,fS b,())) (by rfl) ?_;dsimp only;rw[a1 (by rw[gD,aI (by grind [bh,fJ])])];refine bE (aca c.w.okd c.len c.w.nd z c.w.full M) ?_;rintro⟨E,G,V,_⟩ (⟨o,i⟩|⟨o,i⟩)
 ·have aq:E=fS (b.elim f):=b3 (·.1) i;have J:G=ja (b.eM f):=b3 (·.2.1) i;have K:V=bp:=b3 (·.2.2.1) i;subst aq J K;dsimp only;refine bz (y:=(bq,l,j,pv0++d.map ja,fS b,fS (b.elim f),ja (b.eM f),())) (by rfl) ?_;dsimp only;have P:=c.w.full;rw[da (by grind),bN];have av:(b.elim f).full=b.full-f.length:=rfl;refine bu.2 ⟨.inl ⟨b.elim f,d++[b.eM f],k,ac,c.w.elim (BL h),cz (air _ _) c.len,aa,by grind,?_⟩,?_⟩
  ·rw[c.run,xV h aa,au o,Option.map_map];congr 1;grind
  show(if bq=bp then 0 else((b.full-f.length:X):Z).toNat+1)<(if bq=bp then 0 else((b.full:X):Z).toNat+1);grind
 dsimp only at i;subst i;dsimp only;refine bz (y:=(bp,l,j,pv0++d.map ja,fS b,E,G,())) (by rfl) ?_;dsimp only;have P:=c.w.full;rw[da (by grind),bN];refine bu.2 ⟨.inr ⟨?_,bn⟩,?_⟩
 ·rw[c.run,xV h aa,ax o];rfl
 grind
theorem tE.props (b:tE n e):e.Nodup/\∀a∈e,a∈n:=by
 rcases b with rfl|⟨a,rfl,c⟩|⟨a,g,rfl,c,f,d⟩
 ·grind
 ·grind
 grind
def U2 (b:∀f∈e,f∉n):(e.filter λd=>br (d∉n))=e:=
 mO.2 λa c=>ah3 (b a c)
theorem kP.Ue {a:aV} (f:kP a) (i:tE (a.rows.take a.full) e):(a.elim e).rows.take (a.elim e).full=((a.rows.take a.full).filter λb=>br (b∉e))/\(a.elim e).rows.drop (a.elim e).full=a.rows.drop a.full:=by obtain⟨l,g⟩:=i.props;have c:=f.nd;rw[<-kp a.full a.rows,jR] at c;have k:=DL c.1 l g;have j:=f.full;rw[fU,hG j] at k;have aq:(a.elim e).full=((a.rows.take a.full).filter λb=>br (b∉e)).length:=(by show a.full-e.length=_;omega);have o:(a.elim e).rows=((a.rows.take a.full).filter λb=>br (b∉e))++a.rows.drop a.full:=(by show(a.rows.filter λb=>br (b∉e))=_;have h:(a.rows.drop a.full).filter (λb=>br (b∉e))=a.rows.drop a.full:=U2 λd m n=>c.2.2 d (g d n) d m bn;exact(b3 (aj0 λb=>br (b∉e)) (kp a.full a.rows).symm).trans ((px ..).trans (by rw[h])));grind
theorem aa6 (d:n.Nodup) (c:e.Nodup) (f:∀b∈e,b∈n):(e++n.filter λa=>br (a∉e)).Perm n:=by grind
structure tS (S:ahY) (q:a8):Prop where
 nd:q.rows.Nodup
 sub:∀i∈q.rows,i∈S
 len:q.l.length=q.cF.length
 at1:q.cF.length=1\/q.cF.length=2
 dl:q.d.length=2*q.cF.length-1
 fin:q.fin
def kP.PN {a:aV} (h:kP a) (c:tE (a.rows.take a.full) e) (f:0<e.length) (j:(a.eM e).fin) {S:ahY} (i:∀d∈a.rows,d∈S):tS S (a.eM e) where
 nd:=h.nd.sublist tL
 sub:=λd k=>i d (hq.1 k).1
 len:=by rcases c with rfl|⟨b,rfl,_⟩|⟨b,g,rfl,_⟩<;>rfl
 at1:=by
  rcases c with rfl|⟨b,rfl,_⟩|⟨b,g,rfl,_⟩
  ·cases f
  ·exact .inl bn
  exact .inr bn
 dl:=by
  rcases c with rfl|⟨b,rfl,_⟩|⟨b,g,rfl,_⟩
  ·cases f
  ·rfl
  rfl
 fin:=j
structure FX (x y:aV) (ps:bm a8):Prop where
 w:kP y
 rest:y.rows.drop y.full=x.rows.drop x.full
 perm:(ps.flatMap a8.cF++y.rows.take y.full).Perm (x.rows.take x.full)
 eM:∀q∈ps,tS x.rows q
 sub:∀i∈y.rows,i∈x.rows
 done:y.choose=Y []
theorem Qq:∀{n:X} {a m:aV} {k:bm a8},kP a->a.full<n->aV.run n a=Y (m,k)->FX a m k
 |0,a,m,k,_,v,_=>by omega
 |n+1,a,m,k,g,v,d=>by
  match hc:a.choose with
  |none=>grind [JH]
  |some []=>
   rw[Fc hc] at d;cases d;exact⟨g,bn,akb _,λl f=>(by cases f),λb c=>c,hc⟩
  |some (
   j::h)=>
   rw[xV hc ac] at d;split at d
   case isFalse=>cases d
   rename_i u;have i:=BL hc;obtain⟨x,q⟩:=i.props;cases p:aV.run n (a.elim (j::h)) with
   |none=>grind
   |some l=>
    obtain⟨s,y⟩:=l;rw[p] at d;cases d;have z:0<a.full:=(by have:=List.length_pos_of_mem (q j ac);grind);have e:=Qq (g.elim i) (aa:a.full-(h.length+1)<n) p;obtain⟨aq,t⟩:=g.Ue i;have r:∀b∈(a.elim (j::h)).rows,b∈a.rows:=λb c=>(hq.1 c).1;refine⟨e.w,e.rest.trans t,?_,?_,λb c=>r b (e.sub b c),e.done⟩
    ·have o:=e.perm;rw[aq] at o;show((j::h)++y.flatMap a8.cF++s.rows.take s.full).Perm _;rw[iY];exact(akD _ o).trans (aa6 (g.nd.sublist (akV ..)) x q)
    intro l f;rcases fV.1 f with rfl|f
    ·exact g.PN i ac u λb c=>c
    have:=e.eM l f;exact{this with sub:=λb c=>r b (this.sub b c)}
theorem Tu {c:aV} (i:c.full=c.rows.length):∀{L:ahY},(∀p∈L,p∈c.rows)->c.gL L=Y []->L=[]
 |[],_,_=>rfl
 |p::L,k,d=>by
  exfalso;rw[aV.gL] at d;split at d
  ·cases d
  split at d
  ·cases d
  split at d
  ·cases d
  rename_i f h;have m:f∈c.rows.take c.full:=by
   rw[i,hO];have:∀{l:ahY} {a:Z×ahU},(∀b,a.2=Y b->b∈c.rows)->(∀b∈l,b∈c.rows)->∀b,(e9 (λb=>c.av b p) p l a).2=Y b->b∈c.rows:=by
    intro l
    induction l with
    |nil=>intro a g _ b e;exact g b e
    |cons j l n=>
     grind [e9]
   exact this (l:=c.rows) (a:=(0,bo)) ac (λb e=>e) f h
  grind
theorem FX.whole {b a:aV} {h:bm a8} (c:FX b a h) (j:kP b) (g:b.full=b.rows.length):a.rows=[]/\a.full=0:=by have d:a.rows.drop a.full=[]:=(by rw[c.rest,g,List.drop_length]);have e:a.full=a.rows.length:=(by have:=List.drop_eq_nil_iff.1 d;have:=c.w.full;omega);have i:=Tu e (L:=a.rows.take a.full) (λk f=>vY f) c.done;grind
theorem VU (j:d.length<=1000000) (g:d[a]?=Y c) (k:∀b,b<a->d[b]?≠Y c):zg (d,c,())=Y ((a:Z),()):=by
 obtain⟨l,i⟩:=aiF.1 g;unfold zg;refine bQ.1 ?_;dsimp only;refine bE (P:=λb=>b=.inr ((a:Z),())) ?_ (by grind [bu]);refine bO (a+1) (λe h=>e<=a/\h=((e:Z),())) ⟨alX _,bn⟩ ?_ ?_
 ·rintro e _ m ⟨n,rfl⟩;dsimp only;rw[aY (aK (show(e:Z)<al d by grind)),bk aa];refine bz (y:=d[e]'(by omega)) (e3 aa) ?_
  rw[gD,cQ];refine ah9 (λf=>?_) (λf=>?_)
  ·refine bu.2 ?_;rcases cO e a with b|b
   ·grind
   grind
  grind [bu,cl]
 omega
section
def gm (l:bm dd) (t:X):X:=be l (t+1)-be l t
def hC (l:bm dd) (t:X):X:=(gP l (t:Z)).length
def jt (l:bm dd) (t a:X):X:=((gP l (t:Z)).getD a 0).toNat
def gn (l:bm dd) (t:X):Z:=((l[t]?).map λ(a:dd)=>a.2.2.2.1).getD 0
def D6 (l:bm dd) (t b:X):Prop:=∃a,gm l t<=a/\a<hC l t/\jt l t a=b
structure iF (n:X) (l:bm dd) (t:X):Prop where
 lt:t<l.length
 g:l[t]?=Y ((be l t:Z),(be l (t+1):Z),gP l (t:Z),gn l t,())
 BJ:be l t<be l (t+1)
 wx:be l (t+1)<=n
 Oo:gm l t<=hC l t
 Bl:hC l t<=n
 get:∀i,i<hC l t->(gP l (t:Z))[i]?=Y ((jt l t i:X):Z)
 ro:∀i,i<gm l t->jt l t i=be l t+i
 Jo:∀i,gm l t<=i->i<hC l t->be l (t+1)<=jt l t i
 AS:∀i,i<hC l t->jt l t i<n
 abL:∀i j,i<j->j<hC l t->jt l t i<jt l t j
theorem iF.of {G:ew} {l:bm dd} {n t:X} (k:hW G l) (z:G.length=n) (c:t<l.length):iF n l t:=by
 obtain⟨j,m,A,_⟩:=k;obtain⟨v,w,h,x⟩:=(j.1 t c).at c;have e:=m t c;have g:gP l (t:Z)=l[t].2.2.1:=tj c;have B:=e.asc aa aa;have r:(l[t].2.1-l[t].1).toNat=gm l t:=(by grind [gm]);have q:gm l t<=hC l t:=(by unfold hC;rw[g,<-r];exact e.1);have o:∀a,(b:a<l[t].2.2.1.length)->(a<gm l t->l[t].2.2.1[a]=(be l t:Z)+a)/\(gm l t<=a->(be l (t+1):Z)<=l[t].2.2.1[a]/\l[t].2.2.1[a]<(n:Z)):=λa b=>(by have f:=e.2 a (c8 _) b b;omega);have F:∀a,(b:a<l[t].2.2.1.length)->0<=l[t].2.2.1[a]/\l[t].2.2.1[a]<(n:Z):=λa b=>(by obtain⟨f,i⟩:=o a b;omega);have p:∀a,a<hC l t->(gP l (t:Z))[a]?=Y ((jt l t a:X):Z):=λa b=>(by grind [bS,jt,hC]);have H:∀a,(b:a<l[t].2.2.1.length)->((jt l t a:X):Z)=l[t].2.2.1[a]:=λa b=>(by grind [aiL,bS,hC]);have E:∀a,a<hC l t->a<l[t].2.2.1.length:=λa b=>(by grind);have s:∀a d,a<d->d<hC l t->jt l t a<jt l t d:=λa d C D=>(by grind [ah1]);have u:∀a,a<hC l t->jt l t a<n:=λa b=>(by grind);refine⟨c,?_,h,aa,q,?_,p,λa b=>?_,λa f i=>?_,u,s⟩
 ·rw[ba c,g];have y:gn l t=l[t].2.2.2.1:=(by simp_all [ba,gn]);grind
 ·have:=IF ((bI (hC l t)).map (jt l t)) n ?_ ?_
  ·simp_all
  ·rw[oK];refine tI ?_ List.pairwise_lt_range;grind
  simp_all
 ·grind
 grind
section
variable {n:X} {l:bm dd} {t:X}
theorem iF.own (a:iF n l t):be l t+gm l t=be l (t+1):=by have:=a.BJ;grind [gm]
theorem iF.pos (d:iF n l t) (g:(a:Z)∈gP l (t:Z)):∃b,b<hC l t/\jt l t b=a:=by obtain⟨b,c,f⟩:=ht.1 g;have e:=d.get b c;rw[ba c,f] at e;exact⟨b,c,by grind⟩
end
section
variable {G:ew} {l:bm dd} {n:X}
theorem Tl (d:hW G l) (g:b<=a) (h:a<=l.length):be l b<=be l a:=by
 induction a with
 |zero=>grind
 |succ a e=>
  rcases cO a b with c|c
  ·grind
  have:=e c aa;obtain⟨_,_,f,_⟩:=(d.1.1 a aa).at aa;omega
theorem EP (b:hW G l) (s:G.length=n) {t:X} (d:t<l.length):(gn l t=-1/\∀e,¬D6 l t e)\/∃a:X,gn l t=(a:Z)/\t<a/\a<l.length/\∀e,D6 l t e->(e:Z)∈gP l (a:Z):=by
 have f:=iF.of b s d;have k:gn l t=l[t].2.2.2.1:=(by grind [bS,gn]);have v:gP l (t:Z)=l[t].2.2.1:=tj d;obtain⟨w,x,y,z⟩:=(b.1.1 t d).at d;have u:(l[t].2.1-l[t].1).toNat=gm l t:=(by grind [gm]);have C:=b.parent d;rcases b.2.2.1 t d with⟨h,c⟩|⟨h,c,A⟩
 ·refine .inl ⟨by rw[k,c],?_⟩;rintro e ⟨j,aw,p,_⟩;grind [hC]
 right;simp only[u] at h c;have i:gm l t<hC l t:=(by grind [hC]);have g:=f.get (gm l t) i;rw[v,ba h] at g;have g:=gC g;rw[g,fC] at c;have E:=f.AS _ i;have D:=f.Jo _ (bc _) i;obtain⟨a,m,q,r⟩:=wy b.1 (aa:jt l t (gm l t)<G.length);rw[vR.last b.1 (⟨m,q,r⟩:vR l _ a)] at c;refine⟨a,by rw[k,c],?_,m,?_⟩
 ·rcases cO t a with o|o
  ·exact o
  have:=Tl b (aa:a+1<=t+1) aa;omega
 rintro e ⟨j,aw,p,rfl⟩;have B:j<l[t].2.2.1.length:=(by grind [hC]);have F:=f.get j p;grind
end
end
section
def D8:X->X
 |0=>0
 |t+1=>D8 t+(D8 t+5)
def ez (l:bm dd) (t b:X):ahY:=(bI t).filter λa=>br (gn l a=(b:Z))
section
variable {A:X->X->ahT} {n:X} {l:bm dd} {B:X->X->X->Z} {t:X}
end
end
section
def ML {e:Type} {l:bm k} {b c:k->bm e} (d:∀a∈l,b a=c a):l.flatMap b=l.flatMap c:=by rw[anj,anj,ia d]
def EN:cP (Y 0):=λb a=>by cases a;exact(by decide:aN 0<=131072)
def hn:aV:=⟨[],0,λ_ _=>Y 0⟩
def aV.plus (c d:aV):aV:=⟨c.rows,c.full,λa b=>if a∈d.rows/\b∈d.rows then cK (c.s a b) (d.s a b) else c.s a b⟩
def kL (l:bm dd) (a:X):ahY:=(ah6 (gm l a) (hC l a-gm l a)).map (jt l a)
def jF (l:bm dd) (b:X->aV) (a:X):ahY:=((ez l a a).flatMap λc=>(b c).rows.take (b c).full)++ah6 (be l a) (gm l a)
def ik (d:X->X->ahT) (l:bm dd) (c a b:X):ahT:=if be l c<=min a b/\min a b<be l (c+1) then d a b else Y 0
def jV (c:X->X->ahT) (l:bm dd) (b:X->aV) (a:X):aV:=⟨jF l b a++kL l a,(jF l b a).length,ik c l a⟩
def hQ (c:X->X->ahT) (l:bm dd) (b:X->aV) (a:X):aV:=(ez l a a).foldl (λe d=>e.plus (b d)) (jV c l b a)
def AD (b:X->aV):∀(d:ahY) (a:aV),(d.foldl (λa c=>a.plus (b c)) a).rows=a.rows/\(d.foldl (λa c=>a.plus (b c)) a).full=a.full
 |[],_=>⟨bn,bn⟩
 |c::d,a=>AD b d (a.plus (b c))
theorem ES (e:X->aV):∀(f:ahY) (a:aV),(∀b d,cP (a.s b d))->∀b d,cP ((f.foldl (λa c=>a.plus (e c)) a).s b d)
 |[],_,g=>g
 |c::f,a,g=>ES e f (a.plus (e c)) λb d=>by show cP (if _ then _ else _);grind [kT]
def h7 (b:X->X->ahT) (l:bm dd):X->bv (bm aV×bm a8)
 |0=>Y ([],[])
 |t+1=>(h7 b l t).bind λa=>(aV.run ((hQ b l (λc=>a.1.getD c hn) t).full+1) (hQ b l (λc=>a.1.getD c hn) t)).map λd=>(a.1++[d.1],a.2++d.2)
def pM (l:bm dd) (b:X):ahY:=(bI b).filter λa=>br (gn l a=-1\/(b:Z)<=gn l a)
def kh (a:X->aV) (b:X):ahY:=(a b).rows.take (a b).full
structure jP (l:bm dd) (n t:X) (L:X->aV) (ps:bm a8):Prop where
 w:∀c,c<t->kP (L c)
 rest:∀c,c<t->(L c).rows.drop (L c).full=kL l c
 perm:(ps.flatMap a8.cF++(pM l t).flatMap (kh L)).Perm (bI (be l t))
 root:∀c,c<t->gn l c=-1->(L c).rows=[]/\(L c).full=0
 eM:∀q∈ps,tS (bI n) q
 AS:∀c,c<t->∀i∈(L c).rows,i<n
section
variable {G:ew} {l:bm dd} {n:X}
theorem Ah:b∈kL l a↔D6 l a b:=by unfold kL D6;grind
theorem Ae:a∈ez l f b↔a<f/\gn l a=(b:Z):=by unfold ez;grind
theorem Sz (a:X):(ez l a a++(bI a).filter λb=>br (gn l b=-1\/(a:Z)<gn l b)).Perm (pM l a):=by have e:=List.filter_append_perm (λb=>br (gn l b=(a:Z))) (pM l a);have aq:(pM l a).filter (λb=>br (gn l b=(a:Z)))=ez l a a:=(by unfold pM ez;rw[Bh];refine py λb _=>?_;grind);have d:(pM l a).filter (λc=>!br (gn l c=(a:Z)))=(bI a).filter λb=>br (gn l b=-1\/(a:Z)<gn l b):=(by unfold pM;rw[Bh];refine py λb _=>?_;rw[vN];simp only[cC,tC,decide_eq_false_iff_not,aip];omega);grind
theorem Sy (c:gn l a=-1\/(a:Z)<gn l a):pM l (a+1)=((bI a).filter λb=>br (gn l b=-1\/(a:Z)<gn l b))++[a]:=by grind [ais,ajq,ah4,ah3,decide,gn,pM]
def acx (e:iF n l a):(kL l a).Nodup:=by unfold kL akc;rw[oK];have d:=List.pairwise_lt_range' (s:=gm l a) (n:=hC l a-gm l a);refine(tI ?_ d);intro b c f h g;rw[List.mem_range'_1] at f h;have:=e.abL b c g aa;omega
theorem jP.BE {b:X->aV} {d:bm a8} (h:jP l n a b d) (f:iF n l a):((d.flatMap a8.cF++(((bI a).filter λc=>br (gn l c=-1\/(a:Z)<gn l c)).flatMap (kh b)))++jF l b a).Perm (bI (be l (a+1))):=by
 have i:=h.perm;have e:=(Sz (l:=l) a).flatMap_right (kh b);rw[qw] at e;have g:bI (be l (a+1))=bI (be l a)++ah6 (be l a) (gm l a):=(by have:=f.own;rw[al4,al4,<-f.own];have:=List.range'_append (s:=0) (m:=be l a) (n:=gm l a) (step:=1);grind);rw[g];have j:(d.flatMap a8.cF++(((bI a).filter λc=>br (gn l c=-1\/(a:Z)<gn l c)).flatMap (kh b)++(ez l a a).flatMap (kh b))).Perm (bI (be l a)):=
  (akD _ (List.perm_append_comm.trans e)).trans i
 unfold jF;rw[<-iY];refine List.Perm.append_right _ ?_;rw[iY];exact j
theorem jP.wl {c:X->X->ahT} (w:∀d g,cP (c d g)) {b:X->aV} {r:bm a8} (k:jP l n a b r) (h:iF n l a):kP (hQ c l b a):=by
 have i:=k.BE h;have p:=i.nodup_iff.2 vZ;obtain⟨aq,j⟩:=AD b (ez l a a) (jV c l b a);refine⟨λd _ g _=>ES b _ _ (λd g=>?_) d g,?_,?_⟩
 ·show cP (if _ then _ else _);split
  ·grind
  exact EN
 ·show((ez l a a).foldl (λf e=>f.plus (b e)) (jV c l b a)).rows.Nodup;rw[aq];refine jR.2 ⟨(jR.1 p).2.1,acx h,λs m t o u=>?_⟩;have v:=ig.1 (i.mem_iff.1 (lq _ m));obtain⟨d,i1,q,x⟩:=Ah.1 o;have:=h.Jo d i1 q;omega
 show((ez l a a).foldl (λf e=>f.plus (b e)) (jV c l b a)).full<=((ez l a a).foldl (λf e=>f.plus (b e)) (jV c l b a)).rows.length;rw[aq,j];show(jF l b a).length<=(jF l b a++kL l a).length;grind
def yG (c:X->X->ahT) (b:X->aV) (a:X):(hQ c l b a).rows=jF l b a++kL l a/\(hQ c l b a).full=(jF l b a).length:=AD b (ez l a a) (jV c l b a)
def jP.yF (f:X->X->ahT) {c:X->aV} {j:bm a8} (h:jP l n b c j) (d:iF n l b) (g:a∈(hQ f l c b).rows):a<n:=by
 rw[(yG f c b).1,hX] at g;have:=d.wx;rcases g with e|e
 ·have k:=ig.1 ((h.BE d).mem_iff.1 (lq _ e));omega
 obtain⟨a,i1,i,m⟩:=Ah.1 e;have:=d.AS a i;omega
theorem jP.BF (b:X->X->ahT) (g:∀f i,cP (b f i)) {c:X->aV} {j:bm a8} (d:jP l n a c j) (e:iF n l a):(hQ b l c a).rows.length<=n:=by have:=(d.wl g e).nd.length_le_of_subset (l₂:=bI n) λf h=>ig.2 (d.yF b e h);grind
theorem jP.child (h:X->X->ahT) (k:hW G l) (j:G.length=n) (s:a<l.length) {c:X->aV} {v:bm a8} (q:jP l n a c v) (r:b∈ez l a a) (m:f∈(c b).rows):f∈(hQ h l c a).rows:=by
 have i:=iF.of k j s;obtain⟨p,x⟩:=Ae.1 r;rw[(yG h c a).1];unfold jF;rw[<-kp (c b).full (c b).rows,hX] at m;rcases m with d|d
 ·grind
 rw[q.rest b p] at d;have d:=Ah.1 d;rcases EP k j (aa:b<l.length) with⟨y,_⟩|⟨o,z,A,B,w⟩
 ·omega
 obtain rfl:o=a:=aa;obtain⟨g,t,u⟩:=i.pos (w f d);rcases cO g (gm l o) with e|e
 ·have:=i.ro g e;grind
 exact lq _ (Ah.2 ⟨g,e,t,u⟩)
theorem uS {h:X->X->ahT} (C:∀k M,cP (h k M)) (y:hW G l) (x:G.length=n):∀{t:X},t<=l.length->∀{o:bm aV} {u:bm a8},h7 h l t=Y (o,u)->o.length=t/\jP l n t (λa=>o.getD a hn) u
 |0,_,o,u,e=>by rw[h7] at e;cases e;refine⟨bn,⟨λa g=>by omega,λa g=>by omega,?_,λa g=>by omega,λb A=>(by cases A),λa g=>by omega⟩⟩;show List.Perm [] (bI (be l 0));have:be l 0=0:=rfl;grind
 |t+1,R,o,u,e=>by
  rw[h7] at e;cases D:h7 h l t with
  |none=>grind
  |some N=>
   obtain⟨c,S⟩:=N;obtain⟨i1,f⟩:=uS C y x aa D;have p:=iF.of y x (aa:t<l.length);rw[D] at e;dsimp only[bN] at e;have z:=f.wl C p;generalize s:hQ h l (λa=>c.getD a hn) t=m at e;rw[s] at z;cases E:aV.run (m.full+1) m with
   |none=>grind
   |some b=>
    obtain⟨d,T⟩:=b;rw[E] at e;cases e;have j:=Qq z (tP _) E;have L:=(yG h (λa=>c.getD a hn) t (l:=l));rw[s] at L;have K:m.rows.take m.full=jF l (λa=>c.getD a hn) t:=(by grind);have H:m.rows.drop m.full=kL l t:=(by grind);have q:∀a,a<t->(c++[d]).getD a hn=c.getD a hn:=λa g=>(by rw[lX,lX,qx aa]);have r:(c++[d]).getD t hn=d:=(by grind);have Q:=EP y x (aa:t<l.length);refine⟨by grind,⟨?_,?_,?_,?_,?_,?_⟩⟩
    ·intro a g;dsimp only;rcases cl a t with b|b
     ·rw[q a b];exact f.w a b
     obtain rfl:a=t:=aa;rw[r];exact j.w
    ·intro a g;dsimp only;rcases cl a t with b|b
     ·rw[q a b];exact f.rest a b
     obtain rfl:a=t:=aa;rw[r,j.rest,H]
    ·rw[Sy (by grind),qw,qw];have aq:((bI t).filter λa=>br (gn l a=-1\/(t:Z)<gn l a)).flatMap (kh λa=>(c++[d]).getD a hn)=((bI t).filter λa=>br (gn l a=-1\/(t:Z)<gn l a)).flatMap (kh λa=>c.getD a hn):=by
      refine ML λa g=>?_;show((c++[d]).getD a hn).rows.take ((c++[d]).getD a hn).full=(c.getD a hn).rows.take (c.getD a hn).full;grind
     have F:List.flatMap (kh λa=>(c++[d]).getD a hn) [t]=d.rows.take d.full:=(by show(((c++[d]).getD t hn).rows.take ((c++[d]).getD t hn).full)++[]=_;grind);rw[aq,F];have I:=j.perm;rw[K] at I;refine List.Perm.trans ?_ (f.BE p);grind
    ·intro a g J;dsimp only;rcases cl a t with b|b
     ·rw[q a b];exact f.root a b J
     obtain rfl:a=t:=aa;rw[r];refine j.whole z ?_;have:kL l a=[]:=List.eq_nil_iff_forall_not_mem.2 λO P=>(by grind [Ah]);grind
    ·intro b A;rcases hX.1 A with v|v
     ·exact f.eM b v
     have B:=j.eM b v;exact{B with sub:=λk i=>ig.2 (f.yF h p (by rw[s];exact B.sub k i))}
    intro a g k i;dsimp only at i;rcases cl a t with b|b
    ·rw[q a b] at i;exact f.AS a b k i
    obtain rfl:a=t:=aa;rw[r] at i;exact f.yF h p (by rw[s];exact j.sub k i)
theorem jP.fl {b:X->aV} {h:bm a8} (d:jP l n a b h) {c:X} (e:c<a):(b c).full<=n/\(b c).rows.length<=n:=by have i:=(d.w c e).nd.length_le_of_subset (l₂:=bI n) λg f=>ig.2 (d.AS c e g f);have j:=(d.w c e).full;grind
def jP.all {b:X->aV} {h:bm a8} (g:hW G l) (f:G.length=n) (d:jP l n l.length b h):(h.flatMap a8.cF).Perm (bI n):=by
 have e:=d.perm;have j:(pM l l.length).flatMap (kh b)=[]:=List.flatMap_eq_nil_iff.2 λi k=>by
  obtain⟨a,c⟩:=hq.1 k;have a:=ig.1 a;have c:=of_decide_eq_true c;rcases EP g f a with⟨m,_⟩|⟨o,p,_,q,_⟩
  ·unfold kh;rw[(d.root i a m).1,List.take_nil]
  omega
 rw[j,mN,g.1.2,f] at e;exact e
end
def DR {G:ew} {l:bm dd} (c:hW G l):l.length<=G.length:=by
 have:∀a,a<=l.length->a<=be l a:=by
  intro a
  induction a with
  |zero=>omega
  |succ a d=>
   intro e;have:=d aa;have:=(iF.of c bn (aa:a<l.length)).BJ;omega
 have b:=this l.length (bc _);rw[c.1.2] at b;exact b
end
theorem Mc (b:cP N):BX (az N,c,())=Y (kJ N c,()):=by
 unfold BX;refine ai (Hg b) ?_;dsimp only;rw[q6];cases N with
 |none=>rfl
 |some a=>
  have d:=b a bn;have i:=kj d;have f:=kK d;refine ai (o1 b) ?_;dsimp only;show(bif gB a==0 then _ else _)=_;rw[jv];unfold kJ qe;by_cases e:a=0
  ·grind
  rw[aI e];simp only;rw[ax e,bP];have h:0<(cG a).natAbs:=(by grind [jr]);refine ai (y:=(o2 (br (a<0)) (cG a).natAbs (e7 a) bq,())) ?_ ?_
  ·unfold GI;rw[hz];refine ai (Bw (jH aa)) ?_;simp_all [ax,xI,o2,eI]
  have g:eI a=e7 a:=(by unfold eI;omega);rw[g] at f;exact ai (Qg aa h aa aa) rfl
theorem SE (a:eK c):By bC c 9223372036854775808=c %9223372036854775808:=by obtain⟨b,rfl⟩:=fR a.1;have d:b<18446744073709551616:=(by have:=a.2;omega);unfold By;rw[show bC.bits=64 from rfl,al3,uc d,(ab:(~~~cg 64 9223372036854775808).toNat=2^63-1),alK];grind [tx,aju]
theorem MC (a:eK c) (e:bd c≠2047):eK (c %9223372036854775808)/\a6 (c %9223372036854775808)=Bv (a6 c):=by have g:=a.1;have h:=a.2;have aq:bd (c %9223372036854775808)=bd c:=(by grind [bd]);have f:fy (c %9223372036854775808)=fy c:=(by grind [fy]);refine⟨⟨aa,aa⟩,?_⟩;rw[rB aa,rB e];have b:kA (c %9223372036854775808)=kA c:=(by grind [kA]);have i:=uR c;have d:j3 (c %9223372036854775808)=((j3 c).natAbs:Z):=(by unfold j3;omega);rw[b,d];show Y _=Y (((j3 c*2^(kA c+65536).toNat).natAbs:X):Z);grind [jo]
theorem Vb (b:eK c) (f:bd c≠2047):BY ([c],())=Y (bq,()):=by
 unfold BY;refine bQ.1 ?_;dsimp only;refine bE (P:=λd=>d=.inl ()) ?_ (by grind [bu]);refine bO 1 (λa e=>e=((a:Z),())) rfl ?_ ?_
 ·rintro a _ g rfl;obtain rfl:a=0:=aa;dsimp only;rw[aY (by rfl)];refine bz (y:=c) rfl (bz (Wg b) ?_);dsimp only;rw[a1 (by
   rw[gD];refine aI ?_;unfold k5;omega)]
  exact bu.2 bn
 rintro _ rfl;dsimp only;rw[a1 (by rfl)];grind [bu]
theorem Hw (b:eK c) (a:bd c≠2047):wF (c,())=Y (c %9223372036854775808,()):=by simp_all [bP,SE,ai,Vb,wF]
section
def fd (R:ahY) (lf:ahV) (b:X):ahY:=((bI b).filter λa=>lf.getD a bq).map λa=>R.getD a 0
theorem xu (R:ahY) (lf:ahV) (a:X):fd R lf (a+1)=if lf.getD a bq=bp then fd R lf a++[R.getD a 0] else fd R lf a:=by unfold fd;rw[i5,px,nY,akX];grind
structure iW (R:ahY) (full:X) (lf:ahV) (M:bm (bm ga)) (x:aV):Prop where
 ll:lf.length=R.length
 nd:R.Nodup
 sm:R.length<=1000
 fl:full<=R.length
 rows:x.rows=fd R lf R.length
 full:x.full=(fd R lf full).length
 okd:x.okd
 ent:∀i j,i<R.length->j<R.length->lf.getD i bq=bp->lf.getD j bq=bp->∃row,M[i]?=Y row/\row[j]?=Y (az (x.s (R.getD i 0) (R.getD j 0)))
section
variable {R:ahY} {full:X} {lf:ahV} {M:bm (bm ga)} {x:aV}
def cE (R:ahY) (full:X) (lf:ahV) (M:bm (bm ga)):c4:=(a5 R,(full:Z),lf,M,())
theorem Ii (d:a<b) (c:lf.getD a bq=bp):R.getD a 0∈fd R lf b:=eY.2 ⟨a,hq.2 ⟨ig.2 d,c⟩,bn⟩
theorem iW.mem (b:iW R full lf M x) (c:a<R.length) (d:lf.getD a bq=bp):R.getD a 0∈x.rows:=by rw[b.rows];grind [Ii]
theorem iW.value (c:iW R full lf M x) (d:a<R.length) (e:b<R.length) (f:lf.getD a bq=bp) (g:lf.getD b bq=bp):sr (Y (cE R full lf M),(a:Z),(b:Z),())=Y (x.bi (R.getD a 0) (R.getD b 0),()):=by
 obtain⟨i,h,j⟩:=c.ent a b d e f g;unfold sr;refine ai (y:=cE R full lf M) rfl (ai (y:=i) ?_ (ai (y:=az (x.s (R.getD a 0) (R.getD b 0))) ?_ (ai (Mc (c.okd _ (c.mem d f) _ (c.mem e g))) rfl)))
 ·rw[fg];exact h
 grind [fg]
theorem iW.inj (a:iW R full lf M x) {i j:X} (b:i<R.length) (c:j<R.length):R.getD i 0=R.getD j 0↔i=j:=by rw[lX,ba b,lX,ba c];exact qA a.nd
theorem Ty:br (fF c j>0)=br (j<c):=by rw[cx];grind [absurd,fF]
theorem iW.M3 (i:iW R full lf M x) (H:a<R.length) (T:lf.getD a bq=bp):ae (zd (Y (cE R full lf M),(a:Z),())) λr=>
  (x.fin (R.getD a 0)/\∃e:ahU,r=(az (Y (x.fh (R.getD a 0)).1),pO e,0,())/\(∀c,e=Y c->c<R.length/\lf.getD c bq=bp/\(x.fh (R.getD a 0)).2=Y (R.getD c 0))/\(e=bo->(x.fh (R.getD a 0)).2=bo))\/
  (¬x.fin (R.getD a 0)/\r.2.2.1=233):=by
 obtain⟨s,o⟩:∃s:X,s=65536:=⟨_,bn⟩;have F:al (cE R full lf M).1=(R.length:Z):=(by rw[bh];exact b3 _ (fJ _));have ap:=i.sm;have an:=i.ll;generalize B:R.getD a 0=d;unfold zd;refine bz (zI ab ab) ?_;have J:jn 0=Y 0:=rfl;rw[J];refine bz (y:=cE R full lf M) rfl ?_;refine bE (P:=λf=>(x.fin d/\∃(e:ahU) (g:cV),f=.inl (pO e,g,az (Y (x.fh d).1),())/\(∀c,e=Y c->c<R.length/\lf.getD c bq=bp/\(x.fh d).2=Y (R.getD c 0))/\(e=bo->(x.fh d).2=bo))\/(¬x.fin d/\∃j t,f=.inr (j,t,233,()))) ?_ ?_
 rotate_left
 ·grind [bu]
 refine bO R.length (λb f=>(∀h∈fd R lf b,bd (x.bi h d)≠2047)/\∃(e:ahU) (g:cV),f=(pO e,(b:Z),g,az (Y (e9 (λc=>x.av c d) d (fd R lf b) (0,bo)).1),())/\(∀c,e=Y c->c<R.length/\lf.getD c bq=bp/\(e9 (λc=>x.av c d) d (fd R lf b) (0,bo)).2=Y (R.getD c 0))/\(e=bo->(e9 (λc=>x.av c d) d (fd R lf b) (0,bo)).2=bo)) ?_ ?_ ?_
 ·refine⟨by simp[fd],bo,_,bn,?_,λ_=>rfl⟩;grind
 rotate_left
 ·rintro _ ⟨q,e,g,rfl,n,k⟩;dsimp only;rw[F,a1 (aI (aa:¬(R.length:Z)<(R.length:Z)))];rw[<-i.rows] at q n k|-;exact bu.2 (.inl ⟨q,e,g,bn,n,k⟩)
 rintro b _ u ⟨q,e,g,rfl,n,k⟩;dsimp only;rw[F,aY (aK (aa:(b:Z)<(R.length:Z))),bk aa];have N:ao (cE R full lf M).2.2.1 (b:Z)=Y (lf.getD b bq):=(by rw[fg];show lf[b]?=_;grind);have C:cS s 1074 1024 1 (Y (e9 (λc=>x.av c d) d (fd R lf b) (0,bo)).1):=HP (λh E=>x.sf o (q h E)) cS.zero;rw[xu];refine bE (P:=λf=>((∀h∈(if lf.getD b bq=bp then fd R lf b++[R.getD b 0] else fd R lf b),bd (x.bi h d)≠2047)/\∃(e:ahU) (g:cV),f=.inl (pO e,g,az (Y (e9 (λc=>x.av c d) d (if lf.getD b bq=bp then fd R lf b++[R.getD b 0] else fd R lf b) (0,bo)).1),())/\(∀c,e=Y c->c<R.length/\lf.getD c bq=bp/\(e9 (λc=>x.av c d) d (if lf.getD b bq=bp then fd R lf b++[R.getD b 0] else fd R lf b) (0,bo)).2=Y (R.getD c 0))/\(e=bo->(e9 (λc=>x.av c d) d (if lf.getD b bq=bp then fd R lf b++[R.getD b 0] else fd R lf b) (0,bo)).2=bo))\/(¬x.fin d/\∃j t,f=.inr (.inr (.inr (j,t,233,()))))) ?_ ?_
 rotate_left
 ·grind [bu]
 refine bz (y:=cE R full lf M) rfl (bz N ?_);cases A:lf.getD b bq with
 |false=>
  rw[aY (by rfl),ax ab];grind [bu]
 |true=>
 rw[a1 (by rfl),ca bn];have I:=i.value u H A T;rw[B] at I;have p:=x.k8 (R.getD b 0) d;refine bz I (bz (z2 p) ?_);dsimp only;by_cases f:bd (x.bi (R.getD b 0) d)=2047
 ·rw[aY (by grind)];exact bu.2 (.inr ⟨λS=>S _ (i.mem u A) f,_,_,bn⟩)
 rw[a1 (by grind)];have L:∀h∈fd R lf b++[R.getD b 0],bd (x.bi h d)≠2047:=λh E=>(by grind);have O:e9 (λc=>x.av c d) d (fd R lf b++[R.getD b 0]) (0,bo)=if R.getD b 0=d then e9 (λc=>x.av c d) d (fd R lf b) (0,bo) else if(e9 (λc=>x.av c d) d (fd R lf b) (0,bo)).2=bo\/(e9 (λc=>x.av c d) d (fd R lf b) (0,bo)).1<x.av (R.getD b 0) d then(x.av (R.getD b 0) d,Y (R.getD b 0)) else e9 (λc=>x.av c d) d (fd R lf b) (0,bo):=by rw[xh,e9,e9]
 rw[O];generalize e9 (λc=>x.av c d) d (fd R lf b) (0,bo)=j at*;obtain⟨l,w⟩:=j;dsimp only at n k C|-;have D:R.getD b 0=d↔b=a:=(by rw[<-B];exact i.inj u H);by_cases z:b=a
 ·rw[aY (by grind),au (D.2 z)];grind [bu]
 rw[a1 (by grind),ck (mt D.1 z)];obtain⟨U,V⟩:=MC p f;have ad:=x.Gj f;have K:=x.sf o f;have G:jW (x.bi (R.getD b 0) d %9223372036854775808,())=Y (az (Y (x.av (R.getD b 0) d)),()):=(by grind [p7]);refine bz (Hw p f) (bz G (bz (L5 (K.lM o ab ab) (C.lM o ab ab)) ?_));dsimp only;have Q:e=bo↔w=bo:=by
  constructor
  ·exact k
  intro am;cases e with
  |none=>rfl
  |some c=>
   grind
 refine bE (P:=λr=>r=(br (w=bo\/l<x.av (R.getD b 0) d),g,az (Y l),())) ?_ ?_
 ·rw[Ty];by_cases m:l<x.av (R.getD b 0) d
  ·simp_all [aK,bu,a1]
  rw[aY (by grind)];refine bu.2 ?_;have:br (pO e<0)=br (w=bo\/l<x.av (R.getD b 0) d):=by
   rw[cx];cases e with
   |none=>exact⟨λ_=>.inl (Q.1 bn),λ_=>by decide⟩
   |some c=>
    constructor
    ·intro v;have:((c:X):Z)<0:=v;omega
    grind
  grind
 rintro _ rfl;dsimp only;rw[cQ];refine ah9 (λm=>?_) (λm=>?_)
 ·rw[au m];refine bz (Hw p f) (bz G ?_);refine bu.2 (.inl ⟨L,Y b,g,bn,?_,λv=>by cases v⟩);grind
 rw[ax m];grind [bu]
end
end
section
theorem Ia (d:cP (Y c)) (e:cP (Y j)) (a:fO (64*c)) (b:fO (41*j)):wN (az (Y c),az (Y j),())=Y (br (41*j<=64*c),()):=by unfold wN;refine ai (zI ab ab) (ai (pX (xk _) d) (ai (zI ab ab) (ai (pX (xk _) e) ?_)));rw[Eu ab a,Eu ab b];refine ai (L5 a b) ?_;dsimp only;have:br (fF (64*c) (41*j)>=0)=br (41*j<=64*c):=(by rw[cx];grind [absurd,fF]);grind
section
variable {R:ahY} {full:X} {lf:ahV} {M:bm (bm ga)} {x:aV}
def mE (R:ahY) (lf:ahV) (c b:X):ahY:=((ah6 c b).filter λa=>lf.getD a bq).map λa=>R.getD a 0
theorem acO (R:ahY) (lf:ahV) (a b:X):mE R lf a (b+1)=if lf.getD a bq=bp then R.getD a 0::mE R lf (a+1) b else mE R lf (a+1) b:=by grind [List.range'_succ,mE]
theorem Ig (R:ahY) (lf:ahV) (a:X):∀d,∃b,fd R lf (a+d)=fd R lf a++b
 |0=>⟨[],ac⟩
 |d+1=>by obtain⟨b,c⟩:=Ig R lf a d;grind [aiB,ajv,xu]
def iW.take (a:iW R full lf M x):x.rows.take x.full=fd R lf full:=by have:=a.fl;obtain⟨c,b⟩:=Ig R lf full (R.length-full);rw[a.rows,a.full,(aa:R.length=full+(R.length-full)),b,List.take_left'];rfl
theorem iW.NY (a:iW R full lf M x) {k:X} (e:k<R.length) (f:lf.getD k bq=bp):R.getD k 0∈x.rows.take x.full↔k<full:=by
 have:=a.fl;rw[a.take];constructor
 ·intro c;unfold fd at c;obtain⟨g,b,d⟩:=eY.1 c;have b:=ig.1 (hq.1 b).1;have:=(a.inj aa e).1 d;omega
 grind [Ii]
def iW.L7 (h:iW R full lf M x) (d:a<R.length) (e:lf.getD a bq=bp) (b:bd (x.bi (R.getD a 0) (R.getD a 0))≠2047):za (Y (cE R full lf M),(a:Z),())=Y (az (Y (x.av (R.getD a 0) (R.getD a 0))),()):=by have c:=x.k8 (R.getD a 0) (R.getD a 0);obtain⟨f,g⟩:=MC c b;unfold za;refine ai (h.value d d e e) (ai (Hw c b) (ai (y:=(az (Y (x.av (R.getD a 0) (R.getD a 0))),())) ?_ bn));rw[p7 f,g,x.Gj b]
def FG (x:aV) (R:ahY) (full:X) (lf:ahV) (c:ahY) (d:ahZ×Z×bt):Prop:=(d.2.1=233/\x.gL c=bo)\/∃b:ahY,d=(a5 b,0,())/\(∀a∈b,a<full/\lf.getD a bq=bp)/\x.gL c=Y (b.map λa=>R.getD a 0)
theorem iW.choose (e:iW R full lf M x):ae (Cl (Y (cE R full lf M),())) λk=>FG x R full lf (x.rows.take x.full) k:=by
 obtain⟨D,c⟩:∃D:X,D=65536:=⟨_,bn⟩;have d2:=e.sm;have ds:=e.fl;have d0:=e.ll;rw[e.take];have a0:fd R lf full=mE R lf 0 full:=(by unfold fd mE;rw[al4]);rw[a0];unfold Cl;refine bz (y:=cE R full lf M) rfl ?_;refine bE (P:=λd=>(d=.inl ()/\x.gL (mE R lf 0 full)=Y [])\/∃k,d=.inr k/\FG x R full lf (mE R lf 0 full) k) ?_ ?_
 rotate_left
 ·rintro _ (⟨rfl,e⟩|⟨k,rfl,e⟩)
  ·exact bu.2 (.inr ⟨[],bn,ac,e⟩)
  grind [bu]
 refine bO full (λb cs=>cs=((b:Z),())/\x.gL (mE R lf 0 full)=x.gL (mE R lf b (full-b))) ⟨bn,bn⟩ ?_ ?_
 rotate_left
 ·rintro _ ⟨rfl,l⟩;dsimp only;rw[a1 (aI (show¬(full:Z)<(cE R full lf M).2.1 from Int.lt_irrefl _))];refine bu.2 (.inl ⟨bn,?_⟩);rw[l,Nat.sub_self];rfl
 rintro b _ d1 ⟨rfl,l⟩;dsimp only;have z:b<R.length:=aa;rw[aY (aK (show(b:Z)<(cE R full lf M).2.1 by show(b:Z)<(full:Z);omega)),bk aa];rw[(aa:full-b=full-(b+1)+1),acO] at l;refine bE (P:=λd=>(d=.inl ()/\x.gL (mE R lf 0 full)=x.gL (mE R lf (b+1) (full-(b+1))))\/∃k,d=.inr (.inr (.inr k))/\FG x R full lf (mE R lf 0 full) k) ?_ ?_
 rotate_left
 ·grind [bu]
 have bl:ao (cE R full lf M).2.2.1 (b:Z)=Y (lf.getD b bq):=(by rw[fg];show lf[b]?=_;grind);refine bz (y:=cE R full lf M) rfl (bz bl ?_);cases o:lf.getD b bq with
 |false=>
  rw[o,ax ab] at l;rw[aY (by rfl)];grind [bu]
 |true=>
 rw[o,au bn] at l;rw[a1 (by rfl)];refine bE (e.M3 z o) ?_;have G:=e.mem z o;generalize F:R.getD b 0=a at*;rintro⟨am,an,ap,_⟩ (⟨j,cv,i,ci,co⟩|⟨j,i⟩)
 rotate_left
 ·dsimp only at i;subst i;dsimp only;rw[aY (by rfl)];refine bu.2 (.inr ⟨_,bn,.inl ⟨bn,?_⟩⟩);rw[l,aV.gL,ca j]
 cases i;dsimp only;rw[a1 (by rfl)];have I:=e.L7 z o (by rw[F];exact j a G);rw[F] at I;refine bz I ?_;dsimp only;have t:=x.D0 c j;have w:=x.sf c (j a G);have u:cP (Y (x.fh a).1):=λp g=>(by cases g;exact t.lM c ab ab);have K:cP (Y (x.av a a)):=λp g=>(by cases g;exact w.lM c ab ab);refine bE (P:=λd=>d=if(x.fh a).1=0\/41*(x.fh a).1<=64*x.av a a then .inr (.inr (.inr (.inr ([(b:Z)],0,())))) else .inl (az (Y (x.fh a).1),az (Y (x.av a a)),())) ?_ ?_
 ·refine bE (P:=λd=>d=(br ((x.fh a).1=0\/41*(x.fh a).1<=64*x.av a a),az (Y (x.fh a).1),az (Y (x.av a a)),())) ?_ ?_
  ·refine bz (o1 u) ?_;dsimp only;by_cases q:(x.fh a).1=0
   ·rw[a1 (by show((gB (x.fh a).1==0)==bq)=bq;grind [jv,aK])];grind [aK,bu]
   rw[aY (by show((gB (x.fh a).1==0)==bq)=bp;grind [jv,aI])];refine bz (Ia K u (w.oy c ab ab ab) (t.oy c ab ab ab)) ?_;simp_all [cx,bu]
  rintro _ rfl;dsimp only;rw[cQ];refine ah9 (λq=>?_) (λq=>?_)
  ·rw[au q];grind [bu]
  rw[ax q];grind [bu]
 rintro _ rfl;by_cases r:(x.fh a).1=0\/41*(x.fh a).1<=64*x.av a a
 ·rw[au r];refine bu.2 (.inr ⟨_,bn,.inr ⟨[b],bn,by grind,?_⟩⟩);simp_all [ax,ah2,au,r0,aV.gL]
 rw[ck r];dsimp only;refine bz (y:=cE R full lf M) rfl ?_;cases cv with
 |none=>exact absurd (.inl (HQ (co bn)).2) r
 |some h=>
  obtain⟨s,v,bx⟩:=ci h bn;have J:=e.NY s v;have H:=e.mem s v;have a4:=e.M3 s v;have a3:=λj=>e.L7 s v j;generalize dl:R.getD h 0=f at*;have m:x.gL (a::mE R lf (b+1) (full-(b+1)))=if f∉x.rows.take x.full then x.gL (mE R lf (b+1) (full-(b+1))) else if¬x.fin f then bo else
   if 41*((x.fh a).1*(x.fh a).1)<=64*(x.av a a*(x.fh f).1) then Y [a] else
   if 41*(x.fh f).1<=64*x.av f f then Y [f] else Y [a,f]:=by
   rw[aV.gL,ax (ah2 j),ax r,bx]
  replace m:=l.trans m;show ae (bif br ((h:Z)>=(cE R full lf M).2.1) then _ else _) _;by_cases E:h<full
  rotate_left
  ·rw[aY (aK (show(h:Z)>=(cE R full lf M).2.1 by show(full:Z)<=(h:Z);omega))];exact bu.2 (.inl ⟨bn,m.trans (au (mt J.1 E))⟩)
  rw[a1 (aI (show¬(h:Z)>=(cE R full lf M).2.1 by show¬(full:Z)<=(h:Z);omega))];rw[ax (ah2 (J.2 E))] at m;refine bE a4 ?_;rintro⟨am,an,ap,_⟩ (⟨n,d3,i,_,_⟩|⟨n,i⟩)
  rotate_left
  ·dsimp only at i;subst i;dsimp only;rw[aY (by rfl)];exact bu.2 (.inr ⟨_,bn,.inl ⟨bn,m.trans (ca n)⟩⟩)
  cases i;dsimp only;rw[a1 (by rfl)];rw[ck (ah2 n)] at m;have A:=x.D0 c n;have L:=x.sf c (n f H);have N:cP (Y (x.fh f).1):=λp g=>(by cases g;exact A.lM c ab ab);have ce:cP (Y (x.av f f)):=λp g=>(by cases g;exact L.lM c ab ab);obtain⟨B,_,_,c1,aq,U,O,Q⟩:=cS.mul c w A ab ab ab;obtain⟨C,_,_,c2,V,ad,S,T⟩:=cS.mul c t t ab ab ab;cases aq;cases U;cases V;cases ad;rw[O] at B;rw[S] at C;refine bz (pX K N) (bz (pX u u) ?_);rw[O,S];refine bz (Ia (λp g=>by cases g;exact B.lM c ab ab) (λp g=>by cases g;exact C.lM c ab ab) (B.oy c ab ab ab) (C.oy c ab ab ab)) ?_;dsimp only;rw[cQ];refine ah9 (λd=>?_) (λd=>?_)
  ·rw[Et T Q] at d;refine bu.2 (.inr ⟨_,bn,.inr ⟨[b],bn,by grind,?_⟩⟩);grind
  rw[Et T Q] at d;rw[ck d] at m;refine bz (a3 (n f H)) (bz (Ia ce N (L.oy c ab ab ab) (A.oy c ab ab ab)) ?_);dsimp only;rw[cQ];refine ah9 (λd=>?_) (λd=>?_)
  ·refine bu.2 (.inr ⟨_,bn,.inr ⟨[h],bn,by grind,?_⟩⟩);grind
  refine bu.2 (.inr ⟨_,bn,.inr ⟨[b,h],bn,?_,?_⟩⟩)
  ·grind
  grind
end
end
def eT (lf:ahV) (a:X):ahY:=(bI a).filter λb=>lf.getD b bq
theorem Ee (lf:ahV) (a:X):eT lf (a+1)=if lf.getD a bq=bp then eT lf a++[a] else eT lf a:=by unfold eT;rw[i5,px,nY,akX];grind
def If (lf:ahV) (a:X):(eT lf a).length<=a:=eD (kR _ _) ac
theorem Ef (a:ahY) (lf:ahV) (b:X):fd a lf b=(eT lf b).map λc=>a.getD c 0:=rfl
theorem PU {lf:ahV} {c:bm (bm ga)} (j:lf.length=e.length) (k:e.length<=1000):ze (Y (cE e a lf c),())=Y (a5 (eT lf e.length),()):=by
 have f:al (cE e a lf c).1=(e.length:Z):=(by rw[bh];exact b3 _ (fJ _));unfold ze;refine bQ.1 ?_;refine bz (y:=cE e a lf c) rfl ?_;refine bE (P:=λd=>d=(a5 (eT lf e.length),())) ?_ (by grind [bu]);refine bO e.length (λb d=>d=((b:Z),a5 (eT lf b),())) rfl ?_ ?_
 ·rintro b _ i rfl;dsimp only;rw[f,aY (aK (aa:(b:Z)<(e.length:Z))),bk aa];have g:ao (cE e a lf c).2.2.1 (b:Z)=Y (lf.getD b bq):=by
   rw[fg];show lf[b]?=_;grind
  refine bE (P:=λd=>d=(a5 (eT lf (b+1)),())) ?_ (by grind [bu]);refine bz (y:=cE e a lf c) rfl (bz g ?_);have:=If lf b;rw[Ee];cases h:lf.getD b bq with
  |false=>
   rw[bP,ax ab];grind [bu]
  |true=>
   rw[bG,au bn,da (by grind [fJ]),aC];refine bu.2 ?_;rw[oq];rfl
 rintro _ rfl;dsimp only;rw[f,a1 (aI (aa:¬(e.length:Z)<(e.length:Z)))];grind [bu]
theorem acH {a:et} (e:∀b∈a,cP b) (f:cP N) (h:a.length<=1000):oZ (a.map az,az N,())=Y (a.map (λb=>az (cU b N)),()):=by
 unfold oZ;refine bQ.1 ?_;dsimp only;refine bE (P:=λd=>d=(a.map (λb=>az (cU b N)),())) ?_ (by grind [bu]);refine bO a.length (λc d=>d=((c:Z),(a.take c).map (λb=>az (cU b N)),())) rfl ?_ ?_
 ·rintro c _ g rfl;dsimp only;rw[aY (aK (show(c:Z)<al (a.map az) by grind)),bk aa];refine bz (y:=az a[c]) (by grind [fg,bS]) ?_;refine bz (pX (e _ (b7 g)) f) ?_;grind [ct,bS,bu,da]
 rintro _ rfl;dsimp only;rw[a1 (aI (show¬(a.length:Z)<al (a.map az) by grind)),cA];grind [bu]
def eF (a:X) (E:X->X->ga):bm (bm ga):=aB a λb=>aB a (E b)
theorem Xk {E:X->X->ga} (j:a<f) (k:b<f) (g:ga):∃e,(eF f E)[a]?=Y e/\e.length=f/\e[b]?=Y (E a b)/\(eF f E).set a (e.set b g)=eF f λc d=>if c=a/\d=b then g else E c d:=by
 refine⟨_,jl j,cY _ _,jl k,?_⟩;unfold eF;rw[hA,hA];refine c9 λc l=>?_;by_cases h:c=a
 ·subst h;rw[gI];refine c9 λd m=>?_;by_cases i:d=b
  ·subst i;rw[gI];grind
  simp_all [hb,ax]
 simp_all [hb,c9,ax]
def kk (c:ahY) (f:X->X->ahT) (g h:X->ahT) (E:X->X->ga) (d e:X):X->X->ga:=λa b=>
 if(a∈c.take d/\b∈c)\/(c[d]?=Y a/\b∈c.take e) then az (cK (f a b) (c7 (cU (g a) (h b)))) else E a b
theorem QR {R:ahY} {full:X} {lf:ahV} {E:X->X->ga} {l:ahY} {s:X->X->ahT} {u v:X->ahT} (S:a<=1000) (w:∀J∈l,J<a) (T:l.Nodup) (O:l.length<=1000) (N:∀c∈l,∀e∈l,E c e=az (s c e)) (G:∀c∈l,∀e∈l,cP (s c e)) (H:∀c∈l,cP (u c)) (I:∀c∈l,cP (v c)):pV (cE R full lf (eF a E),a5 l,l.map (λc=>az (u c)),l.map (λc=>az (v c)),())=Y (cE R full lf (eF a λc e=>if c∈l/\e∈l then az (cK (s c e) (c7 (cU (u c) (v e)))) else E c e),()):=by
 have x:al (a5 l)=(l.length:Z):=(by rw[bh,fJ]);have q:∀b,(z:b<l.length)->ao (a5 l) (b:Z)=Y ((l[b]:X):Z):=λb g=>(by rw[fg];show(l.map λ(M:X)=>(M:Z))[b]?=_;grind);have y:∀(h:X->ahT) b,(z:b<l.length)->ao (l.map λc=>az (h c)) (b:Z)=Y (az (h l[b])):=λh b g=>(by grind [fg,bS]);unfold pV;refine bQ.1 ?_;dsimp only;refine bE (P:=λf=>f=(cE R full lf (eF a (kk l s u v E l.length 0)),())) ?_ ?_
 rotate_left
 ·rintro _ rfl;refine bu.2 ?_;have:eF a (kk l s u v E l.length 0)=eF a λc e=>if c∈l/\e∈l then az (cK (s c e) (c7 (cU (u c) (v e)))) else E c e:=by
   unfold eF kk;grind
  grind
 refine bO l.length (λb f=>f=((b:Z),cE R full lf (eF a (kk l s u v E b 0)),())) ?_ ?_ ?_
 ·grind [c9,eF,kk]
 rotate_left
 ·rintro _ rfl;dsimp only;rw[x,a1 (aI (aa:¬(l.length:Z)<(l.length:Z)))];grind [bu]
 rintro b _ g rfl;dsimp only;rw[x,aY (aK (aa:(b:Z)<(l.length:Z))),bk aa];have k:=b7 g;have B:=w _ k;refine bz (q b g) ?_;refine bE (P:=λf=>f=(cE R full lf (eF a (kk l s u v E b l.length)),())) ?_ ?_
 rotate_left
 ·rintro _ rfl;refine bu.2 ?_;have:eF a (kk l s u v E b l.length)=eF a (kk l s u v E (b+1) 0):=by
   unfold eF kk;refine c9 λc _=>c9 λe _=>?_;have:(c∈l.take b/\e∈l\/l[b]?=Y c/\e∈l.take l.length)↔(c∈l.take (b+1)/\e∈l\/l[b+1]?=Y c/\e∈l.take 0):=(by rw[hO,hN,ba g];grind);grind
  grind
 refine bO l.length (λd f=>f=((d:Z),cE R full lf (eF a (kk l s u v E b d)),())) rfl ?_ ?_
 rotate_left
 ·rintro _ rfl;dsimp only;rw[a1 (aI (aa:¬(l.length:Z)<(l.length:Z)))];grind [bu]
 rintro d _ j rfl;dsimp only;rw[aY (aK (aa:(d:Z)<(l.length:Z))),bk aa];have m:=b7 j;have C:=w _ m;have V:l[b]∉l.take b:=λD=>(by grind [ajl,ajJ]);have U:l[d]∉l.take d:=λD=>(by grind [ajl,ajJ]);have F:kk l s u v E b d l[b] l[d]=az (s l[b] l[d]):=(by simp_all [ck,kk]);obtain⟨K,o,ad,dc,L⟩:=Xk (E:=kk l s u v E b d) B C (az (cK (s l[b] l[d]) (c7 (cU (u l[b]) (v l[d])))));rw[F] at dc;have Q:(eF a (kk l s u v E b d)).length=a:=cY _ _;have A:(cE R full lf (eF a (kk l s u v E b d))).2.2.2.1=eF a (kk l s u v E b d):=rfl;have r:=eS (n:=(eF a (kk l s u v E b d)).length) (i:=l[b]) aa;have t:=eS (n:=K.length) (i:=l[d]) aa;refine bz (q d j) ?_;rw[A];refine bz r (bz r ?_);rw[gq o,bN];refine bz t ?_;rw[gq o,gq dc,bN];refine bz (y u b g) (bz (y v d j) (bz (pX (H _ k) (I _ m)) (bz (Hh (G _ k _ m) (kE _ _)) ?_)));refine bz t ?_;rw[gq o,gq dc];refine bu.2 ?_;dsimp only;rw[L];have:(eF a λc e=>if c=l[b]/\e=l[d] then az (cK (s l[b] l[d]) (c7 (cU (u l[b]) (v l[d])))) else kk l s u v E b d c e)=eF a (kk l s u v E b (d+1)):=by
  unfold eF kk;refine c9 λc _=>c9 λe _=>?_;dsimp only;by_cases p:c=l[b]/\e=l[d]
  ·obtain⟨rfl,rfl⟩:=p;rw[au (show l[b]=l[b]/\l[d]=l[d] from⟨bn,bn⟩),au];grind [akB,ah4,ct,bS]
  rw[ax p];grind [ct,bS,ah4,ajd]
 rw[<-this];rfl
section
def gM {α:Type} (l:ahY) (f g:X->X->α) (c d a b:X):α:=if(a∈l.take c/\b∈l)\/(l[c]?=Y a/\b∈l.take d) then f a b else g a b
section
variable {α:Type} {l:ahY} {f g:X->X->α}
theorem G9:gM l f g 0 0=g:=by grind [gM]
theorem G8 (c:a<l.length):gM l f g a l.length=gM l f g (a+1) 0:=by funext i b;unfold gM;have:(i∈l.take a/\b∈l\/l[a]?=Y i/\b∈l.take l.length)↔(i∈l.take (a+1)/\b∈l\/l[a+1]?=Y i/\b∈l.take 0):=(by rw[hO,hN,ba c];grind);grind
theorem G5:gM l f g l.length 0=λa b=>if a∈l/\b∈l then f a b else g a b:=by grind [gM]
theorem G7 (e:l.Nodup) (c:a<l.length) (d:b<l.length):gM l f g a b l[a] l[b]=g l[a] l[b]:=by unfold gM;rw[ax];grind [ajJ,ajl]
theorem G6 (h:a<l.length) (i:b<l.length):gM l f g a (b+1)=λc d=>if c=l[a]/\d=l[b] then f l[a] l[b] else gM l f g a b c d:=by
 funext c d;unfold gM;by_cases e:c=l[a]/\d=l[b]
 ·obtain⟨rfl,rfl⟩:=e;rw[au (show l[a]=l[a]/\l[b]=l[b] from⟨bn,bn⟩),au];grind [akB,ah4,ct,bS]
 rw[ax e];grind [ct,bS,ah4,ajd]
end
def fP (a:ahY) (b:X->X->ga):bm (bm ga):=a.map λc=>a.map λd=>b c d
theorem J1 (a:ahY) (b:X->X->ga):(fP a b).length=a.length:=ff _
theorem Fo (d:X->X->ga) (g:e[f]?=Y a) (h:e[q]?=Y b):∃c,(fP e d)[f]?=Y c/\c.length=e.length/\c[q]?=Y (d a b):=by simp_all [jg,ff,fP]
theorem Qy (j:e.Nodup) (h:e[a]?=Y b) (g:X->k) (d:k):(e.map g).set a d=e.map λc=>if c=b then d else g c:=by
 refine hM λi=>?_;rw[vX,jg,jg,ff];have l:a<e.length:=(hF.1 h).1;by_cases f:a=i
 ·grind
 rw[ax f];grind [aku]
theorem J2 (i:e.Nodup) (c:X->X->ga) (l:e[b]?=Y a) (m:e[q]?=Y f) (j:ga) {h:bm ga} (n:(fP e c)[b]?=Y h):(fP e c).set b (h.set q j)=fP e λg d=>if g=a/\d=f then j else c g d:=by have k:h=e.map λd=>c a d:=(by grind [aiL,fP]);subst k;rw[Qy i m];unfold fP;rw[Qy i l];refine ia λg _=>?_;grind
theorem Q3 {a b:X->X->ga} (f:∀c∈e,∀d∈e,a c d=b c d):fP e a=fP e b:=by grind [aii,fP]
theorem MA (a:ahY) (g:X->k):aB a.length (λb=>g (a.getD b 0))=a.map g:=by unfold aB;refine hM λc=>?_;grind
theorem Xl (a:ahY) (b:X->X->ga):eF a.length (λc d=>b (a.getD c 0) (a.getD d 0))=fP a b:=by grind [aii,MA,fP,aB,eF]
end
section
section
variable {G:ew} {l:bm dd} {n t:X} {L:X->aV} {ps:bm a8} {A:X->X->ahT}
theorem yM (l:bm dd) (t a:X):ez l (t+1) a=if gn l t=(a:Z) then ez l t a++[t] else ez l t a:=by grind [ais,gn,ez]
theorem LK (b:X->ahY) (a c:X):∀d,((ez l a c).flatMap b).length<=((ez l (a+d) c).flatMap b).length
 |0=>bc _
 |d+1=>by have e:=LK b a c d;grind [aiz,yM]
def jP.Ln (b:jP l n t L ps) (a:iF n l t):(jF l L t).length<=n:=by have c:=(b.BE a).length_eq;rw[jQ,mP] at c;have:=a.wx;omega
def jP.LJ (c:jP l n t L ps) (e:iF n l t) (g:a<=t):((ez l a t).flatMap (kh L)).length<=n:=by have b:=c.Ln e;unfold jF at b;rw[jQ] at b;have d:=LK (l:=l) (kh L) a t (t-a);rw[(aa:a+(t-a)=t)] at d;have f:((ez l t t).flatMap λa=>(L a).rows.take (L a).full).length=((ez l t t).flatMap (kh L)).length:=rfl;omega
theorem Xq (b:ahY) (a:X):(a5 b).take a=a5 (b.take a):=by grind [al5,a5]
theorem mZ (c:a<e.length):ao (a5 e) (a:Z)=Y ((e[a]:X):Z):=by rw[fg];show(e.map λ(b:X)=>(b:Z))[a]?=_;grind
theorem qc (c:a<e.length) (b:Z->bv k):rd (a5 e) (a:Z) b=b ((e[a]:X):Z):=by simp_all [fJ,eS,aC,gq,mZ,fg,a5,rd]
def la (a:ahY) (c:X->X->ga) (d b:X):bm ga:=(a.take b).map (c (a.getD d 0))++bJ (a.length-b) (bq,((bq,(([]:ahZ),())),((0:Z),())))
theorem Qi {c:X->X->ga} (d:a<=e.length):(la e c b a).length=e.length:=by grind [aiz,cm,aib,List.length_replicate,la]
theorem Qj {h:X->X->ga} (d:a<e.length):(la e h b a).set a (h (e.getD b 0) e[a])=la e h b (a+1):=by unfold la;have c:e.length-a=(e.length-(a+1))+1:=aa;have f:((e.take a).map (h (e.getD b 0))).length=a:=(by grind);rw[akO _ _ aa,f,oM,c,List.replicate_succ,List.set_cons_zero,hN,ba d,jh,iY];rfl
theorem acp {h:X->X->ga} (c:a<e.length) (g:h (e.getD b 0) e[a]=az (Y 0)):la e h b a=la e h b (a+1):=by
 rw[<-Qj c,g];refine(hM λi=>?_);rw[vX];by_cases d:a=i
 ·subst d;rw[au bn,Qi aa,au c];unfold la;have f:((e.take a).map (h (e.getD b 0))).length=a:=(by grind);rw[pz aa,f,oM,List.getElem?_replicate,au aa];rfl
 grind
theorem abO (J:hW G l) (I:G.length=n) (ap:t<l.length) (z:jP l n t L ps) (T:∀a b,cP (A a b)) (f5:n<=100) (f2:l.length<=100) {S:lZ} (ce:∀a b:X,a<n->b<n->wZ (S,d,(a:Z),(b:Z),())=Y (az (A a b),())):Dr (S,d,l,(t:Z),(bI t).map (λe=>fS (L e)),())=Y (fS (hQ A l L t),()):=by
 have r:=iF.of J I ap;have fp:=z.Ln r;have N:∀e,e<=t->∃j:dd,ao l (e:Z)=Y j/\j=((be l e:Z),(be l (e+1):Z),gP l (e:Z),gn l e,()):=λe B=>(by have:=(iF.of J I (aa:e<l.length)).g;grind [fg]);have O:∀e,e<t->ao ((bI t).map λe=>fS (L e)) (e:Z)=Y (fS (L e)):=λe B=>(by grind [fg,List.getElem?_range]);have ft:=r.wx;have f7:=r.own;have co:=z.wl T r;have E:=yG A L t (l:=l);have V:∀a∈jF l L t++kL l t,a<n:=λa o=>z.yF A r (by grind);have ci:=z.BF A T r;rw[E.1] at ci;have ad:=co.nd;rw[E.1] at ad;unfold Dr;refine bQ.1 ?_;dsimp only;refine bE (P:=λk=>k=(([],((0:Z),([],()))),(a5 ((ez l t t).flatMap (kh L)),((0:Z),([],()))),())) ?_ ?_
 ·refine bO t (λe k=>k=((e:Z),([],((0:Z),([],()))),(a5 ((ez l e t).flatMap (kh L)),((0:Z),([],()))),())) rfl ?_ ?_
  ·rintro e _ B rfl;dsimp only;rw[aY (aK (aa:(e:Z)<(t:Z))),bk aa];obtain⟨j,v,rfl⟩:=N e aa;refine bE (P:=λk=>k=(([],((0:Z),([],()))),(a5 ((ez l (e+1) t).flatMap (kh L)),((0:Z),([],()))),())) ?_ (by grind [bu]);refine bz v ?_;dsimp only;have M:=z.LJ r (aa:e+1<=t);rw[yM] at M|-;rw[gD,cQ];by_cases p:gn l e=(t:Z)
   ·rw[au p] at M|-;rw[au p];refine bz (O e B) (bz (O e B) ?_);have F:=(z.w e B).full;rw[qw,jQ] at M;have f3:(a5 (L e).rows).length=(L e).rows.length:=fJ _;refine bz (y:=(0,(L e).full)) ?_ ?_
    ·have eq:(fS (L e)).2.1=((L e).full:Z):=rfl;simp_all [aC,Ew,p4,c8,fS]
    have bl:((((fS (L e)).1).take (L e).full).drop 0)=a5 (kh L e):=(by show((a5 (L e).rows).take (L e).full).drop 0=_;rw[List.drop_zero,Xq];rfl);dsimp only;rw[bl];have fT:(kh L e).length<=n:=(by grind);rw[da (by grind [fJ]),bN];grind [oq,bu]
   rw[ax p,ax p];grind [bu]
  rintro _ rfl;dsimp only;rw[a1 (aI (aa:¬(t:Z)<(t:Z)))];grind [bu]
 rintro _ rfl;dsimp only;obtain⟨j,v,rfl⟩:=N t (cj _);refine bz v ?_;dsimp only;have fz:=z.LJ r (cj t);refine bE (P:=λk=>k=(([],((0:Z),([],()))),(a5 (jF l L t),((0:Z),([],()))),())) ?_ ?_
 ·refine bO (gm l t) (λa k=>k=(((be l t+a:X):Z),([],((0:Z),([],()))),(a5 ((ez l t t).flatMap (kh L)++ah6 (be l t) a),((0:Z),([],()))),())) ?_ ?_ ?_
  ·grind
  ·rintro a _ o rfl;dsimp only;refine bz v ?_;dsimp only;rw[aY (aK (aa:((be l t+a:X):Z)<(be l (t+1):Z))),bk aa];rw[da (by grind [akd,fJ,aiz,al6]),bN];refine bu.2 ?_;rw[ak3,<-aiB,oq ((ez l t t).flatMap (kh L)++ah6 (be l t) a),ak2];rfl
  rintro _ rfl;dsimp only;refine bz v ?_;dsimp only;rw[a1 (aI (aa:¬(((be l t+gm l t:X):Z)<(be l (t+1):Z))))];exact bu.2 bn
 rintro _ rfl;dsimp only;have ex:=r.Bl;have f6:=r.Oo;rw[show al (a5 (jF l L t))=((jF l L t).length:Z) by rw[bh,fJ]];generalize c2:((jF l L t).length:Z)=q;refine bE (P:=λk=>k=(([],((0:Z),([],()))),(a5 (jF l L t++kL l t),(q,([],()))),())) ?_ ?_
 ·refine bO (hC l t) (λa k=>k=((a:Z),([],((0:Z),([],()))),(a5 (jF l L t++(ah6 (gm l t) (a-gm l t)).map (jt l t)),(q,([],()))),())) ?_ ?_ ?_
  ·grind
  ·rintro a _ o rfl;dsimp only;refine bz v ?_;dsimp only;rw[aY (aK (show(a:Z)<al (gP l (t:Z)) by grind [bh,hC])),bk aa];have am:ao (gP l (t:Z)) (a:Z)=Y ((jt l t a:X):Z):=(by rw[fg];exact r.get a o);refine bE (P:=λk=>k=(([],((0:Z),([],()))),(a5 (jF l L t++(ah6 (gm l t) (a+1-gm l t)).map (jt l t)),(q,([],()))),())) ?_ (by grind [bu]);refine bz v (bz am (bz v ?_));dsimp only;rcases cl a (gm l t) with p|p
   ·have:=r.ro a p;rw[a1 (aI (aa:¬((jt l t a:X):Z)>=(be l (t+1):Z))),(aa:a+1-gm l t=a-gm l t)];grind [bu]
   have:=r.Jo a p o;rw[aY (aK (aa:((jt l t a:X):Z)>=(be l (t+1):Z))),(aa:a+1-gm l t=a-gm l t+1)];refine bz v (bz am ?_);rw[da (by grind [akd,fJ,aiz,cm,al6]),aC];refine bu.2 ?_;rw[ak3,jh,<-iY,oq (jF l L t++(ah6 (gm l t) (a-gm l t)).map (jt l t)),lv,(aa:gm l t+(a-gm l t)=a)];rfl
  rintro _ rfl;dsimp only;refine bz v ?_;dsimp only;rw[a1 (aI (show¬((hC l t:Z)<al (gP l (t:Z))) by grind [bh,hC]))];exact bu.2 bn
 rintro _ rfl;dsimp only;generalize fl:jF l L t++kL l t=c at*;have U:al (a5 c)=(c.length:Z):=(by rw[bh,fJ]);have f0:∀a,(a4:a<c.length)->c.getD a 0=c[a]:=λa a4=>(by grind);refine bE (P:=λk=>k=(([],((0:Z),([],()))),(a5 c,(q,(fP c (λa b=>az (ik A l t a b)),()))),())) ?_ ?_
 ·refine bO c.length (λa k=>k=((a:Z),([],((0:Z),([],()))),(a5 c,(q,((c.take a).map (λa=>c.map λb=>az (ik A l t a b)),()))),())) rfl ?_ ?_
  ·rintro a _ o rfl;dsimp only;rw[U,aY (aK (aa:(a:Z)<(c.length:Z))),bk aa,h9 aa,bN,da (by grind),bN];have d1:((c.take a).map (λa=>c.map λb=>az (ik A l t a b))).length=a:=(by grind);refine bE (P:=λk=>k=(([],((0:Z),([],()))),(a5 c,(q,((c.take a).map (λa=>c.map λb=>az (ik A l t a b))++[la c (λa b=>az (ik A l t a b)) a c.length],()))),())) ?_ ?_
   ·refine bO c.length (λb k=>k=((b:Z),([],((0:Z),([],()))),(a5 c,(q,((c.take a).map (λa=>c.map λb=>az (ik A l t a b))++[la c (λa b=>az (ik A l t a b)) a b],()))),())) ?_ ?_ ?_
    ·rfl
    ·rintro b _ u rfl;dsimp only;rw[aY (aK (aa:(b:Z)<(c.length:Z))),bk aa];refine bE (P:=λk=>k=(([],((0:Z),([],()))),(a5 c,(q,((c.take a).map (λa=>c.map λb=>az (ik A l t a b))++[la c (λa b=>az (ik A l t a b)) a (b+1)],()))),())) ?_ (by grind [bu]);rw[qc o,qc u];have ds:(if((c[b]:X):Z)<((c[a]:X):Z) then((c[b]:X):Z) else((c[a]:X):Z))=((min c[a] c[b]:X):Z):=aa;rw[ds];refine bz (y:=(br (be l t<=min c[a] c[b]/\min c[a] c[b]<be l (t+1)),([],((0:Z),([],()))),(a5 c,(q,((c.take a).map (λa=>c.map λb=>az (ik A l t a b))++[la c (λa b=>az (ik A l t a b)) a b],()))),())) ?_ ?_
     ·refine ai v ?_;dsimp only;by_cases p:be l t<=min c[a] c[b]
      ·simp_all
      grind
     dsimp only;by_cases p:be l t<=min c[a] c[b]/\min c[a] c[b]<be l (t+1)
     ·rw[aY (aK p)];have av:((c.take a).map (λa=>c.map λb=>az (ik A l t a b))++[la c (λa b=>az (ik A l t a b)) a b])[a]?=Y (la c (λa b=>az (ik A l t a b)) a b):=by
       simp_all
      rw[eS (by grind),bN,qc o,qc u];refine bz (ce _ _ (V _ (b7 o)) (V _ (b7 u))) ?_;dsimp only;have fs:(la c (λa b=>az (ik A l t a b)) a b).length=c.length:=Qi aa;rw[gq av,bN,eS aa,bN,gq av,gq (bS (aa:b<(la c (λa b=>az (ik A l t a b)) a b).length))];refine bu.2 ?_;have d2:az (A c[a] c[b])=az (ik A l t (c.getD a 0) c[b]):=(by simp_all [ca,ik]);dsimp only;rw[d2,Qj (h:=λa b=>az (ik A l t a b)) u,akO _ _ aa,d1,Nat.sub_self];rfl
     rw[a1 (aI p)];refine bu.2 ?_;rw[acp (h:=λa b=>az (ik A l t a b)) u (by simp_all [ax,ik])]
    rintro _ rfl;dsimp only;rw[a1 (aI (aa:¬(c.length:Z)<(c.length:Z)))];grind [bu]
   rintro _ rfl;refine bu.2 ?_;have:la c (λa b=>az (ik A l t a b)) a c.length=c.map λb=>az (ik A l t c[a] b):=(by simp_all [mN,oM,hO,la]);rw[this,hN,ba o,jh];rfl
  rintro _ rfl;dsimp only;rw[U,a1 (aI (aa:¬(c.length:Z)<(c.length:Z))),cA];exact bu.2 bn
 rintro _ rfl;dsimp only;have c1:∀e,((ez l e t).foldl (λm e=>m.plus (L e)) (jV A l L t)).rows=c:=λe=>(by simp_all [AD,ez,jV]);have d0:∀e a b,cP (((ez l e t).foldl (λm e=>m.plus (L e)) (jV A l L t)).s a b):=λe=>ES L _ _ λa b=>by
  show cP (if _ then _ else _);split
  ·grind
  exact EN
 refine bE (P:=λk=>k=(([],((0:Z),([],()))),fS (hQ A l L t),())) ?_ (by grind [bu]);refine bO t (λe k=>k=((e:Z),([],((0:Z),([],()))),(a5 c,(q,(fP c (λa b=>az (((ez l e t).foldl (λm e=>m.plus (L e)) (jV A l L t)).s a b)),()))),())) rfl ?_ ?_
 rotate_left
 ·rintro _ rfl;dsimp only;rw[a1 (aI (aa:¬(t:Z)<(t:Z)))];refine bu.2 ?_;unfold fS;rw[E.1,E.2,c2];rfl
 rintro e _ B rfl;dsimp only;rw[aY (aK (aa:(e:Z)<(t:Z))),bk aa];obtain⟨j,d4,rfl⟩:=N e aa;refine bE (P:=λk=>k=(([],((0:Z),([],()))),(a5 c,(q,(fP c (λa b=>az (((ez l (e+1) t).foldl (λm e=>m.plus (L e)) (jV A l L t)).s a b)),()))),())) ?_ (by grind [bu]);refine bz d4 ?_;dsimp only;rw[fX,yM];by_cases p:gn l e=(t:Z)
 rotate_left
 ·rw[ax p,aY (by grind)];grind [bu]
 rw[au p,a1 (by grind)];refine bz (O e B) ?_;rw[List.foldl_append,ake,List.foldl_nil];have K:∀a∈(L e).rows,a∈c:=λa o=>(by have:=z.child A J I ap (Ae.2 ⟨B,p⟩) o;grind);have d3:=d0 e;have gc:=c1 e;generalize(ez l e t).foldl (λm e=>m.plus (L e)) (jV A l L t)=m at*;have F:=z.w e B;generalize L e=j at*;have ge:j.rows.length<=100:=(by have:=F.nd.length_le_of_subset (l₂:=c) K;omega);have H:al (fS j).1=(j.rows.length:Z):=(by rw[bh];exact b3 _ (fJ _));refine bE (P:=λk=>k=(([],((0:Z),([],()))),(a5 c,(q,(fP c (λa b=>az ((m.plus j).s a b)),()))),())) ?_ (by grind [bu]);have cs:(λa b=>az ((m.plus j).s a b))=λa b=>if a∈j.rows/\b∈j.rows then az (cK (m.s a b) (j.s a b)) else az (m.s a b):=by funext a b;show az (if _ then _ else _)=_;grind
 rw[cs,<-G5 (l:=j.rows) (f:=λa b=>az (cK (m.s a b) (j.s a b))) (g:=λa b=>az (m.s a b))];generalize cv:(λa b=>az (cK (m.s a b) (j.s a b)))=C;generalize dl:(λa b=>az (m.s a b))=D;refine bO j.rows.length (λa k=>k=((a:Z),([],((0:Z),([],()))),(a5 c,(q,(fP c (gM j.rows C D a 0),()))),fS j,())) ?_ ?_ ?_
 ·rw[G9];rfl
 rotate_left
 ·rintro _ rfl;dsimp only;rw[H,a1 (aI (aa:¬(j.rows.length:Z)<(j.rows.length:Z)))];grind [bu]
 rintro a _ o rfl;dsimp only;rw[H,aY (aK (aa:(a:Z)<(j.rows.length:Z))),bk aa];refine bE (P:=λk=>k=(([],((0:Z),([],()))),(a5 c,(q,(fP c (gM j.rows C D a j.rows.length),()))),fS j,())) ?_ (by grind [bu,G8]);refine bO j.rows.length (λb k=>k=((b:Z),([],((0:Z),([],()))),(a5 c,(q,(fP c (gM j.rows C D a b),()))),fS j,())) rfl ?_ ?_
 rotate_left
 ·rintro _ rfl;dsimp only;rw[H,a1 (aI (aa:¬(j.rows.length:Z)<(j.rows.length:Z)))];grind [bu]
 rintro b _ u rfl;dsimp only;rw[H,aY (aK (aa:(b:Z)<(j.rows.length:Z))),bk aa];have a0:=b7 o;have a3:=b7 u;obtain⟨d6,d7,d8,_⟩:=AC (l:=c) aa j.rows[a];obtain⟨d5,rfl,Q⟩:=d8 (K _ a0);obtain⟨d6,ek,el,_⟩:=AC (l:=c) aa j.rows[b];obtain⟨k,rfl,R⟩:=el (K _ a3);have f8:=(aiF.1 Q).1;have f9:=(aiF.1 R).1;obtain⟨d9,em,go,dc⟩:=Fo (gM j.rows C D a b) Q R;have bx:=J2 ad (gM j.rows C D a b) Q R (C j.rows[a] j.rows[b]) em;rw[<-G6 o u] at bx;rw[G7 F.nd o u] at dc;have f4:(fP c (gM j.rows C D a b)).length=c.length:=J1 _ _;have an:=eS (n:=(fP c (gM j.rows C D a b)).length) (i:=d5) aa;have f1:=eS (n:=d9.length) (i:=k) aa;obtain⟨gl,gf,gi⟩:=w9 (x:=j) (bS o) (bS u);have fn:=AM (d3 j.rows[a] j.rows[b]) (F.okd _ a0 _ a3);subst cv dl;refine bz (mZ o) (bz d7 (bz (mZ u) (bz ek (bz an (bz an ?_)))));simp_all [bu,gq,bz,bN]
end
end
theorem Ix {c:Type} {p:c->bA} {d:c}:∀{e:bm c},d∈e.takeWhile p->p d=bp
 |[],a=>by cases a
 |b::e,a=>by
  rw[List.takeWhile_cons] at a;split at a
  ·rcases fV.1 a with rfl|a
   ·omega
   exact Ix a
  grind
def nE (a:X->X) (c:X) (d:ahY):ahY:=d.takeWhile (λb=>br (a b<a c))++c::d.dropWhile (λb=>br (a b<a c))
def mG (a:X->X) (b:ahY):ahY:=b.foldl (λd c=>nE a c d) []
abbrev m6:=ahY×(X->Z)
def a8.c3 (a:a8):bm m6:=a.l.map λb=>(a.rows,b)
def j9 (b:m6->ahZ) (a:bm m6):ahZ:=(bI (a.length+1)).map λc=>(((a.take c).flatMap b).length:Z)
def gA (a:X->X) (b:m6):ahZ:=(mG a b.1).map λc=>(a c:Z)
def ix (b:X->X) (a:m6):ahZ:=(mG b a.1).map a.2
def rf (c:ahZ) (a:bm a8) (del:Z):eG:=
 ((
  a.flatMap a8.cF).map (λb=>c.getD b 0),(a.map (λe=>(e.cF.length:Z)),(a.flatMap (·.d),
  (j9 (gA λb=>(a.flatMap a8.cF).idxOf b) (a.flatMap a8.c3),((a.flatMap a8.c3).flatMap (gA λb=>(a.flatMap a8.cF).idxOf b),((a.flatMap a8.c3).flatMap (ix λb=>(a.flatMap a8.cF).idxOf b),(del,())))))))
theorem Ly (b:m6->ahZ) (a:bm m6) (c:m6):j9 b (a++[c])=j9 b a++[(((a++[c]).flatMap b).length:Z)]:=by
 unfold j9;rw[jQ,pB,i5,jh];congr 1
 ·grind [aii]
 grind
theorem VY (a:X->X) (c:X) (b:ahY):(nE a c b).length=b.length+1:=by unfold nE;have e:=b3 aia (Bj (p:=λd=>br (a d<a c)) (l:=b));grind
def QO (c:X->X):∀(b a:ahY),(b.foldl (λa p=>nE c p a) a).length=a.length+b.length
 |[],a=>rfl
 |p::b,a=>by rw[ake,QO c b,VY,iZ];omega
theorem rK (b:X->X) (a:ahY):(mG b a).length=a.length:=by unfold mG;rw[QO,oI,nf]
theorem ac9 (b:X->X) (c:a<e.length):mG b (e.take (a+1))=nE b e[a] (mG b (e.take a)):=by grind [ct,bS,mG]
theorem DO (b:m6->bm k) {cs:bm m6} (c:∀a∈cs,(b a).length<=100):(cs.flatMap b).length<=100*cs.length:=by
 induction cs with
 |nil=>grind
 |cons a cs d=>
  grind
theorem abf (a:X->X) (c:ahY) (b:X) (O:c.length<=1000) (d:eG) (f:aA) (g:eG) (k:aA):(loop (σ:=qM) (ρ:=qM) (λ(h,r,n,m,j,s,_)=>
 bB (α:=(eG×aA×eG×aA×aA×bt)⊕(qM⊕qM)) (
  bif br (h<al j)==bp then rd j h λI=>
  bif br (I<(a b:Z)) then
 Y (.inl (r,n,m,j,s,())) else
 Y (.inr (.inr (h,r,n,m,j,s,()))) else Y (.inr (.inr (h,r,n,m,j,s,())))) λq=>match q with
 |.inl (G,u,t,E,H,_)=>(
 Y (.inl (aP h,G,u,t,E,H,())))
 |.inr F=>Y F) (0,d,f,g,c.map (λb=>(a b:Z)),k,()))=Y (((c.takeWhile λd=>br (a d<a b)).length:Z),d,f,g,c.map (λb=>(a b:Z)),k,()):=by
 refine bQ.1 ?_;generalize A:c.takeWhile (λd=>br (a d<a b))=e;have M:e.length<=c.length:=(by grind [List.takeWhile_sublist]);have D:=Bj (p:=λd=>br (a d<a b)) (l:=c);rw[A] at D;have o:(c.map (λb=>(a b:Z))).length=c.length:=ff _;refine bO e.length (λi q=>q=((i:Z),d,f,g,c.map (λb=>(a b:Z)),k,())) rfl ?_ ?_
 ·rintro i _ N rfl;dsimp only;have B:i<c.length:=aa;have x:a (c[i]'B)<a b:=by
   have z:e[i]∈c.takeWhile (λd=>br (a d<a b)):=(by grind);have L:=Ix z;grind
  refine bz (y:=.inl (d,f,g,c.map (λb=>(a b:Z)),k,())) ?_ ?_
  ·rw[bh,o,aY (by grind)];simp_all [eS,aC,gq,jg,ba,aY,aK,rd]
  grind [bu,bk]
 rintro _ rfl;dsimp only;refine bz (y:=.inr (.inr ((e.length:Z),d,f,g,c.map (λb=>(a b:Z)),k,()))) ?_ (bu.2 bn);rw[bh,o];by_cases w:e.length<c.length
 ·rw[aY (by grind)];unfold rd;rw[o,eS w,aC,gq (v:=(a c[e.length]:Z)) (by grind),aC,a1 (aI ?_)];intro K;have C:c.dropWhile (λd=>br (a d<a b))≠[]:=λJ=>by
   grind
  have x:=List.head_dropWhile_not (λd=>br (a d<a b)) C;grind
 grind
theorem Ni (a:X->X) (c:X) (b:ahY) (e:X->k):((([]:bm k)++(((b.map e).take (b.takeWhile λd=>br (a d<a c)).length).drop 0))++[e c])++(((b.map e).take (b.map e).length).drop (b.takeWhile λd=>br (a d<a c)).length)=(nE a c b).map e:=by have f:=Bj (p:=λd=>br (a d<a c)) (l:=b);rw[hO,lV,iu,<-al5,<-List.map_drop];grind [List.take_left,List.drop_left,aiB,decide,nE]
end Go.jf
end
