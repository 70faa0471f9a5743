/-
  Parts of the proof: Pa1, Pl2, Pl3, Pl5, Th1, Pl6, Pl8, Pl9, Pl10, Pl12, ThT, Pa2, Pa3, Pa4, Pa5, Pa6, Pa7, Pa8, Pa9, Pa10, Pa11, Pa12, Pa13, Pa14, Pa15, Pa16, Pa17, Pa18, Pa19, Pa20, Pa21, Pa22, Pa23, Pa24, Pa25, Pa26, Pa27, Pa28, Pa29, Pm1, Pm2, G25, Pm3, Pm4, Pm5, Pm6, Pm7, Pm8, Pm9, Pm10, Pm11, Pm12, Pl13, Th2, Pl16, Pl18: the framework (Fw), pure forms (Dn), plain laws (Pl, Th), calls of functions (Ok).
-/
import Derived.Test.YtnndjinceoekdaaGreatDoorRows
import Derived.ProofKit
import Derived.Lib.LaidTab
import Derived.LaidMore
import Derived.Test.YtnndjinceoekdaaGreatDoorBda147916

set_option linter.all false
set_option maxHeartbeats 1000000
open _root_ renaming Nat->X,Int->Z,Bool->bA,Unit->bt,rfl->bn,List->bm,Option->bv,False->b5,decide_eq_true_eq->ahD,decide_eq_true->ahg,decide_eq_false->ahN,of_decide_eq_true->aiP,Decidable->ahS,and_true->b8,decide_eq_false_iff_not->aj3,decide_eq_decide->cu,beq_self_eq_true->ahM,cond_true->bG,if_pos->b9,cond_false->bO,if_neg->cf,bne_self_eq_false->ale,congrArg->b3
open List renaming replicate->bJ,length_take->aho,take_add_one->ct,getElem?_eq_getElem->bR,take_append_drop->aiK,length_eq_zero_iff->akW,pairwise_iff_getElem->ahh,getD->ahX,getElem_mem->b6,mem_singleton->ahk,range->bH,length_filter_le->ahF,length_map->cj,range_succ->ahG,mem_iff_getElem->ahY,take_length->cB,getElem?_eq_none->aiT,getElem?_take->ajF,take_of_length_le->ck,getLast?_eq_getElem?->al8,getElem_set_self->amc,drop->ak7,length_drop->akM,set_append_right->akb,length_set->ajl,take_zero->ajo,drop_drop->ai1,drop_eq_getElem_cons->ai4,append_assoc->ahP,drop_eq_nil_of_le->ak8,length_append->ahO,pairwise_append->ams,map_append->akg,filter_eq_nil_iff->akh,mem_take_iff_getElem->aiY,take_sublist->aki,filter_eq_self->ain,map_const'->alf,map_congr_left->ahv,mem_cons_self->alg,pairwise_cons->ai7,filter_nil->akj,getElem_set->amv
open Int renaming le_refl->aiW,lt_trans->alZ,toNat_natCast->ahR,fdiv_eq_ediv_of_nonneg->al2,lt_or_le->aif,mul_nonneg->aj4,le_of_lt->ahy,le_total->al6,add_comm->aj5,add_zero->ajj,emod_add_mul_ediv->aiy,sub_zero->aj6,zero_add->aiz,mul_lt_mul_of_pos_right->aj7,emod_emod_of_dvd->amb,mul_emod_left->aj8,mul_emod_mul_of_pos->amd,mul_eq_zero->aj9,mul_zero->aka,one_mul->ajk,mul_comm->aig,ediv_ediv_of_nonneg->ame,ediv_nonneg->ah7,le_ediv_iff_mul_le->akc,mul_add->amf,mul_one->amg,ediv_lt_of_lt_mul->ami,emod_lt_of_pos->ajm,emod_nonneg->ajn,mul_le_mul_of_nonneg_left->akd,lt_of_mul_lt_mul_left->ajp,mul_neg_of_pos_of_neg->amk,mul_ediv_cancel_left->aml,natCast_mul->ajI,ediv_le_self->ajq,emod_neg->amm,ediv_neg->amn,pow_add->amo,natAbs_neg->ajr,mul_ediv_cancel->ak9,zero_sub->ala,eq_ofNat_of_zero_le->ahi,natAbs_mul->amp,natAbs_add_le->amq,natCast_ediv->ake,natAbs_natCast->akf,natCast_emod->amr
open Nat renaming min_eq_left->aix,lt_or_ge->cl,le_trans->cA,and_le_left->al1,or_lt_two_pow->ak1,and_two_pow_sub_one_eq_mod->ak2,add_comm->ai6,div_add_mod->ajS,two_pow_pos->aji,pow_lt_pow_right->al3,mul_eq_zero->al4,div_lt_iff_lt_mul->ajR,le_div_iff_mul_le->ak3,div_div_eq_div_mul->al5,mod_lt->aiI,mul_div_cancel->ak4,mul_pos->al7,mul_le_mul_left->ak5,pow_mul->ak6,le_refl->cc,eq_of_testBit_eq->al9,testBit_and->ama,testBit_two_pow->akT,add_sub_cancel->amh,blt->ca,zero_add->amj,div_eq_of_lt->alb,div_le_self->alc,mod_le->ald,mul_add_div->amt,lt_irrefl->aje
open Option renaming some->Y,bind->bB,none->bo,bind_some->bN,map_some->ajs
open Option.some renaming injEq->ais
open Go.jm.ae renaming eq_iff->bP,fa->bZ,e6->bX,af->bu,kG->ahl,loop->ahx,mono->cz,xn->aiX
open Decidable renaming decide->br
open Go.IntKind renaming i64->bK,u64->bC,wrap->aiU,signed->al0,u32->cb,u8->akZ
open Go.jm renaming wrap64->cq
open List.Pairwise renaming filter->am0,nil->ajL,sublist->amu
open Bool renaming false->bq,true->bp,true_and->ajd
open BitVec renaming ofInt->ch
open Go renaming IntKind->cx,World->bD
open Go.Proofs.Tryz renaming prog->cn
open Go.World renaming cell?->aio
open Go.jm.ai renaming size->ahE
open List.Sublist renaming filter->am1
noncomputable section
namespace Go.jm
variable{a c j:X}{b e u:Z}{d f g:ahc}{h m:bA}{i:ew}{k n:ag6}{l t:Type}{o:eu}{p:Prop}{q:X->Prop}{r:ag8}{v:(ep×Z×Z×bi×bt)->Prop}{w:(ep×Z×bi×bt)->Prop}
def aV (a:X):Z:=4294967296^a
def ag:ahc->Z
 |[]=>0
 |x::a=>x+4294967296*ag a
def aQ (b:ahc):Prop:=∀a∈b,0<=a/\a<4294967296
def aQ.nil:aQ []:=λ_ a=>by cases a
theorem aQ.cons:aQ (b::d)↔(0<=b/\b<4294967296)/\aQ d:=by
 constructor
 ·exactλe=>⟨e b (ng ..),λc a=>e c (g6 _ a)⟩
 rintro⟨f,g⟩ c a;rcases fR.1 a with rfl|a
 ·exact f
 exact g c a
def aQ.append:aQ (d++f)↔aQ d/\aQ f:=by
 constructor
 ·exactλc=>⟨λb a=>c b (rX _ a),λb a=>c b (lm _ a)⟩
 rintro⟨e,g⟩ b a;rcases h8.1 a with a|a
 ·exact e b a
 exact g b a
def aQ.snoc (a:aQ d) (c:0<=b) (e:b<4294967296):aQ (d++[b]):=
 aQ.append.2 ⟨a,aQ.cons.2 ⟨⟨c,e⟩,aQ.nil⟩⟩
def aQ.take {a:ahc} (b:aQ a) (d:X):aQ (a.take d):=λe c=>b e (rY c)
def aQ.drop {a:ahc} (b:aQ a) (d:X):aQ (a.drop d):=λe c=>b e (List.mem_of_mem_drop c)
theorem aQ.lL (a:X):aQ (bJ a (0:Z)):=λc b=>by grind
def aQ.set {c:ahc} (d:aQ c) {e:X} {b:Z} (g:0<=b) (h:b<4294967296):aQ (c.set e b):=λf a=>by
 rcases List.mem_or_eq_of_mem_set a with a|rfl
 ·exact d f a
 omega
def aQ.get (a:aQ d) {n:X} (b:n<d.length):0<=d[n]/\d[n]<4294967296:=a _ (cO b)
theorem fQ (a:X):0<aV a:=mg ab
theorem hZ (a:X):aV (a+1)=4294967296*aV a:=by unfold aV;omega
theorem tw (a b:X):aV (a+b)=aV a*aV b:=lP ..
theorem x8:aV 0=1:=rfl
theorem l9 (a b:ahc):ag (a++b)=ag a+aV a.length*ag b:=by
 induction a with
 |nil=>simp[ag,x8]
 |cons d a c=>
  grind [List.length_cons,hZ,ag]
theorem qq (a:ahc) (b:Z):ag (a++[b])=ag a+aV a.length*b:=by grind [l9,ag]
theorem e7 {l:ahc} (a:aQ l):0<=ag l:=by
 induction l with
 |nil=>exact aiW _
 |cons c l b=>
  grind [aQ.cons,ag]
theorem g5 (a:aQ d):ag d<aV d.length:=by
 induction d with
 |nil=>decide
 |cons c d b=>
  grind [List.length_cons,hZ,aQ.cons,ag]
theorem iw (b:a<d.length):ag (d.take (a+1))=ag (d.take a)+aV a*d[a]:=by grind [qq,aho,aix,ct,bR]
theorem oD (b:ahc) (a:X) (c:a<=b.length):ag b=ag (b.take a)+aV a*ag (b.drop a):=by grind [l9,aho,aix,aiK]
theorem mK (b:a<d.length):ag (d.drop a)=d[a]+4294967296*ag (d.drop (a+1)):=by rw[vN b];rfl
theorem po (a:X):ag (bJ a (0:Z))=0:=by
 induction a with
 |zero=>rfl
 |succ a b=>grind [ag]
theorem mL (c:a<d.length) (b:Z):ag (d.set a b)=ag d+aV a*(b-d[a]):=by
 induction d generalizing a with
 |nil=>grind
 |cons f d e=>
  grind [x8,hZ,ag]
def uG:X->X->ahc
 |0,_=>[]
 |f+1,a=>if a=0 then[] else((a %4294967296:X):Z)::uG f (a/4294967296)
def eS (a:X):ahc:=uG (Nat.log2 a+1) a
def e5 (b:ahc):Prop:=∀a,b.getLast?=Y a->a≠0
theorem Uk:∀{a n:X},n<2^a->aQ (uG a n)/\ag (uG a n)=n/\e5 (uG a n):=by
 intro a
 induction a with
 |zero=>
  intro n b;obtain rfl:n=0:=aa;exact⟨aQ.nil,bn,λc b=>by cases b⟩
 |succ a i=>
  intro n b;unfold uG;split
  ·rename_i g;subst g;exact⟨aQ.nil,bn,λc b=>by cases b⟩
  rename_i k;obtain⟨h,j,d⟩:=i (n:=n/4294967296) aa;refine⟨aQ.cons.2 ⟨⟨aa,aa⟩,h⟩,?_,?_⟩
  ·grind [ag]
  intro c f;cases e:uG a (n/4294967296) with
  |nil=>
   grind [List.getLast?_singleton,ais,ag]
  |cons m l=>
   rw[e,List.getLast?_cons_cons] at f;rw[e] at d;exact d c f
def Hi (a:X):aQ (eS a)/\ag (eS a)=a/\e5 (eS a):=Uk Nat.lt_log2_self
theorem ob (a:X):aQ (eS a):=(Hi a).1
theorem sC (a:X):ag (eS a)=a:=(Hi a).2.1
def w4 (a:X):e5 (eS a):=(Hi a).2.2
theorem e5.tail (a:e5 (b::d)):e5 d:=λe c=>by
 cases d with
 |nil=>cases c
 |cons f d=>exact a e (by grind)
theorem e5.zero (e:aQ d) (b:e5 d) (c:ag d=0):d=[]:=by
 induction d with
 |nil=>rfl
 |cons h d g=>
  obtain⟨⟨i,j⟩,a⟩:=aQ.cons.1 e;have k:=e7 a;simp only[ag] at c;have f:h=0:=aa;have:=g a b.tail aa;subst this;subst f;exact absurd rfl (b 0 bn)
theorem e5.uniq:∀{a b:ahc},aQ a->aQ b->e5 a->e5 b->ag a=ag b->a=b
 |[],b,_,e,_,g,c=>(e5.zero e g (by rw[<-c];rfl)).symm
 |a,[],d,_,f,_,c=>e5.zero d f (by rw[c];rfl)
 |x::a,j::b,d,e,f,g,c=>by obtain⟨⟨k,l⟩,h⟩:=aQ.cons.1 d;obtain⟨⟨m,n⟩,i⟩:=aQ.cons.1 e;simp only[ag] at c;have o:x=j:=aa;have:=e5.uniq h i f.tail g.tail aa;grind
def Un (b:aQ d) (c:e5 d) (e:ag d=a):d=eS a:=
 e5.uniq b (ob a) c (w4 a) (by rw[e,sC])
def e5.eq (a:aQ d) (b:e5 d):d=eS (ag d).toNat:=
 Un a b (by have:=e7 a;omega)
theorem e5.low (b:aQ d) (f:e5 d) (a:d≠[]):aV (d.length-1)<=ag d:=by have c:=List.dropLast_concat_getLast a;have i:=f (d.getLast a) (List.getLast?_eq_some_getLast a);have j:=b _ (List.getLast_mem a);rw[<-c,qq];have k:=e7 (l:=d.dropLast) (λh g=>b h (List.dropLast_subset _ g));have e:1<=d.getLast a:=aa;have m:=jW e (fr (fQ d.dropLast.length));grind
theorem aa6 (e:a<c):aV a<aV c:=by obtain⟨b,rfl⟩:∃b,c=a+(b+1):=⟨c-a-1,aa⟩;rw[tw,hZ];have f:=fQ b;have d:=fQ a;have g:1*aV a<(4294967296*aV b)*aV a:=rS aa d;grind
theorem pf {m n:X} (b:m<=n):aV m<=aV n:=by
 rcases cS m n with a|a
 ·exact fr (aa6 a)
 grind
theorem q5 {n k:X} (d:(n:Z)<aV k):(eS n).length<=k:=by
 by_cases c:eS n=[]
 ·grind
 have a:=e5.low (ob n) (w4 n) c;rw[sC] at a;rcases cS k (eS n).length with b|b
 ·have:=pf (m:=k) (n:=(eS n).length-1) aa;omega
 omega
theorem Mq (a:X):(a:Z)<aV (eS a).length:=by have:=g5 (ob a);grind [sC]
def Hj:eS 0=[]:=rfl
theorem Um:eS a=[]↔a=0:=by
 constructor
 ·grind [sC,ag]
 rintro rfl;rfl
def iv (a:ahc):ahc:=eS (ag a).toNat
theorem Q2 (f:aQ d) (j:a<=d.length) (h:∀b,a<=b->(i:b<d.length)->d[b]=0) (g:e5 (d.take a)):d.take a=iv d:=by have c:ag d=ag (d.take a):=(by have e:d.drop a=bJ (d.length-a) 0:=(by refine vO ac λb c e=>?_;grind);grind [oD,po]);rw[iv,c];exact e5.eq (f.take a) g
def J1 (a:ahc):aQ (iv a):=ob _
def Q1 (a:ahc):e5 (iv a):=w4 _
theorem J2 (a:aQ d):ag (iv d)=ag d:=by have:=e7 a;grind [sC,iv]
theorem Q0 (a:aQ d):(iv d).length<=d.length:=by have b:=g5 a;have:=e7 a;exact q5 aa
def Vy {b c:bm l} (f:b.length=c.length) (e:∀a,a<b.length->b[a]?=c[a]?):b=c:=by
 apply hQ;intro a;rcases cS a b.length with d|d
 ·exact e a d
 rw[qA d,qA aa]
def Ku (a c:ahc) (o:a.length<4611686018427387904):zg (a,c,())=Y (a==c,()):=by
 rw[<-bP];unfold zg;simp only[bZ,bX,bu];refine⟨λd=>?_,λd=>?_⟩
 ·simp at d;have:a≠c:=λf=>d (by rw[f]);simp[this]
 simp at d;have m:a.length=c.length:=aa;refine ae.for (i0:=0) a.length (λe _=>∀b,b<e->a[b]?=c[b]?) rfl ac (c8 _) ?_ ?_
 ·intro e n _ k g;simp only[bZ,bX,bu,ahl];refine⟨λ_=>⟨k,aa,λl=>?_,λj=>?_⟩,λh=>?_⟩
  ·simp at l;have:a≠c:=λf=>l (by simp[f]);simp[this]
  ·refine⟨iU aa,λb p=>?_⟩;rcases cS b e with i|i
   ·exact g b i
   obtain rfl:b=e:=aa;simp at j;rw[bc k,bc aa,j]
  simp at h;omega
 intro n g;simp only[bZ,bX,bu];refine⟨λh=>by simp at h,λ_=>?_⟩;simp[Vy m g]
theorem tk {b:bm l} (c:a<b.length):b.take a++[b[a]]=b.take (a+1):=by rw[hR,bc c];rfl
theorem An:d.Pairwise (· < ·)↔∀c,(e:c+1<d.length)->d[c]<d[c+1]:=by
 constructor
 ·intro e c k;exact(h0.1 e) c (c+1) aa k aa
 intro e;rw[h0];have m:∀b a (f:a<d.length) (g:a+b+1<d.length),d[a]<d[a+b+1]:=by
  intro b
  induction b with
  |zero=>intro a f g;exact e a g
  |succ b l=>
   intro a f g;have i:=l a f aa;have j:=e (a+b+1) aa;exact alZ i j
 intro a h f g n;obtain⟨b,rfl⟩:∃b,h=a+b+1:=⟨h-a-1,aa⟩;exact m b a f g
def Km (b:ahc) (r:b.length<4611686018427387904):zf (b,())=Y (br (b.Pairwise (· < ·)),()):=by
 rw[<-bP];unfold zf;simp only[bX];by_cases k:b.length=0
 ·have:b=[]:=akW.1 k;subst this;refine ahx (λo=>o=(1,())) (λ_=>0) rfl ?_;rintro _ rfl;simp[bu]
 refine ae.for (i0:=1) b.length (λc _=>∀a,(j:a+1<b.length)->a+1<c->b[a]<b[a+1]) rfl (λa _ j=>by omega) aa ?_ ?_
 ·rintro c _ p l e;simp only[bZ,bX,bu,ahl];have i:bK.wrap ((c:Z)-1)=((c-1:X):Z):=(by rw[cq aa aa];omega);rw[i];refine⟨λ_=>⟨l,?_⟩,λf=>?_⟩
  ·rw[ahl];refine⟨aa,?_⟩;refine⟨λm=>?_,λh=>⟨iU aa,λa d q=>?_⟩⟩
   ·have:¬b.Pairwise (· < ·):=λn=>by
     have:=An.1 n (c-1) aa;simp only[(aa:c-1+1=c)] at this;simp at m;omega
    simp[this]
   rcases cS (a+1) c with g|g
   ·exact e a d g
   obtain rfl:c=a+1:=aa;simp at h;exact h
  simp at f;omega
 intro s e;simp only[bZ,bX,bu];refine⟨λf=>by simp at f,λ_=>?_⟩;have:b.Pairwise (· < ·):=An.2 (λa d=>e a d d);simp[this]
theorem fg (b:bm l) (a:X):al b (a:Z)=b[a]?:=by unfold al;simp
section
def qs (a:ahc) (c:Z):Prop:=a.Pairwise (· < ·)/\∀b∈a,0<=b/\b<c
theorem ae.count {g:l->bv (l⊕t)} {f:t->Prop} (d:l->Z) (c:X) (e:X->l->Prop) {i0:X} {i:l} (p:d i=(i0:Z)) (o:e i0 i) (k:i0<=c) (r:∀a b,i0<=a->a<c->d b=(a:Z)->e a b->ae (g b) (λ|.inl m=>d m=((a+1:X):Z)/\e (a+1) m|.inr h=>f h)) (u:∀b,d b=(c:Z)->e c b->ae (g b) (λ|.inl _=>b5|.inr h=>f h)):ae (jm.loop g i) f:=by
 refine ahx (λb=>∃a:X,i0<=a/\a<=c/\d b=(a:Z)/\e a b) (λb=>c-(d b).toNat) ⟨i0,bd _,k,p,o⟩ ?_;rintro b ⟨a,q,k,n,s⟩;rcases cS a c with j|j
 ·refine(r a b q j n s).mono ?_;grind
 grind [mono]
open Classical in
theorem SO (b:ahc) (d:Z) (u:b.length<4611686018427387904):BV (b,d,())=Y (br (qs b d),()):=by
 rw[<-bP];unfold BV;simp only[bX];refine ae.count (λi=>i.2.1) b.length (λa i=>i.1=(if a=0 then-1 else b.getD (a-1) 0)/\(b.take a).Pairwise (· < ·)/\∀e∈b.take a,0<=e/\e<d) (i0:=0) rfl ⟨bn,ac,ac⟩ (c8 _) ?_ ?_
 ·rintro a ⟨h,x,_⟩ _ n j ⟨f,r,m⟩;simp only at j f;subst j;simp only[bZ,bX,bu,ahl];have v:∀e∈b.take a,e<=h:=by
   intro e q;rw[f];obtain⟨y,p,rfl⟩:=ho.1 q;simp only[gh] at p;have o:a≠0:=aa;rw[aw o];grind [ahh,cl,bR]
  have w:-1<=h:=by
   rw[f];by_cases g:a=0
   ·omega
   rw[aw g];simp only[ahX,bc (aa:a-1<b.length),r2];have:=m (b[a-1]) (ho.2 ⟨a-1,by grind,ac⟩);omega
  have s:(b[a]<=h\/d<=b[a])->¬qs b d:=by
   rintro c ⟨z,A⟩;rcases c with c|c
   ·rw[f] at c;by_cases g:a=0
    ·grind
    rw[aw g] at c;grind [ahh,bR]
   grind [b6]
  refine⟨λ_=>⟨n,λk=>⟨λl=>?_,λl=>?_⟩,λk=>?_⟩,λt=>by grind⟩
  ·grind
  ·simp at k l;refine⟨iU aa,?_,?_,?_⟩
   ·grind
   ·grind [ahk,tk]
   grind [tk,ahk]
  grind
 simp_all [bZ,bu,hS,qs]
theorem Kx (a b:Z):ug (a,b,())=Y (br (a<b),()):=by grind [ug,si]
theorem Kh (a:Z) (b:0<=a) (c:a<18446744073709551616):bC.wrap a=a:=by unfold aiU;rw[aw (by simp[al0])];show a %18446744073709551616=a;omega
theorem Ko (b:ahc) (e:Z) (B:b.length<4611686018427387904) (D:b.Pairwise (· < ·)):ae (us (b,e,())) (λv=>v.2.1=br (e∈b)):=by
 unfold us;simp only[bX];refine cz (P:=λu=>∃a:X,u.1=(a:Z)/\a<=b.length/\(∀c,(f:c<b.length)->c<a->b[c]<e)/\(∀c,(f:c<b.length)->a<=c->e<=b[c])) ?_ ?_
 ·refine ahx (λg=>∃a d:X,g.1=(a:Z)/\g.2.1=(d:Z)/\a<=d/\d<=b.length/\(∀c,(f:c<b.length)->c<a->b[c]<e)/\(∀c,(f:c<b.length)->d<=c->e<=b[c])) (λg=>(g.2.1-g.1).toNat) ⟨0,b.length,bn,bn,c8 _,bd _,λc _ f=>by omega,λc j h=>by omega⟩ ?_;rintro⟨t,E,_⟩ ⟨a,d,rfl,rfl,A,o,j,h⟩;simp only[bZ,bX,bu];refine⟨λi=>?_,λn=>?_⟩
  ·have i:a<d:=(by grind);have ao:bK.wrap ((a:Z)+d)=(a:Z)+d:=cq aa aa;rw[ao,Kh _ aa aa];have s:eM bC ((a:Z)+d) 1=Y (((a+d)/2:X):Z):=by
    unfold eM;rw[au aa];congr 1;show((a:Z)+d).fdiv (2^min 1 64)=_;grind
   rw[s];simp only[bu];have m:bK.wrap (((a+d)/2:X):Z)=(((a+d)/2:X):Z):=cq aa aa;rw[m,ahl];refine⟨aa,?_⟩;rw[Kx];simp only[bu,bZ];have y:(a+d)/2<b.length:=aa;refine⟨λk=>?_,λk=>?_⟩
   ·have k:b[(a+d)/2]<e:=(by grind);rw[iU aa];refine⟨⟨(a+d)/2+1,d,bn,bn,aa,o,λc l p=>?_,h⟩,aa⟩;grind [alZ,ahh,cl]
   have k:e<=b[(a+d)/2]:=(by grind);refine⟨⟨a,(a+d)/2,bn,bn,aa,aa,j,λc l p=>?_⟩,aa⟩;grind [ahh,cl]
  grind
 rintro⟨t,_⟩ ⟨a,rfl,z,j,h⟩;simp only;have C:(∀f:a<b.length,b[a]≠e)->e∉b:=by
  intro r q;obtain⟨c,l,rfl⟩:=ho.1 q;rcases qE c a with f|f|f
  ·grind
  ·grind
  have w:=h a aa (bd _);grind [ahh]
 simp only[bZ,bX,bu,ahl];refine⟨λi=>?_,λn=>?_⟩
 ·have i:a<b.length:=(by grind);refine⟨i,λr=>?_,λx=>?_⟩
  ·grind [bu,CH]
  grind
 grind
structure fj (mV:ew):Prop where
 asc:∀v,(h:v<mV.length)->qs mV[v] mV.length
 Nl:∀v,(h:v<mV.length)->(v:Z)∉mV[v]
 sym:∀v,(h:v<mV.length)->∀w:X,(hw:w<mV.length)->(w:Z)∈mV[v]->(v:Z)∈mV[w]
open Classical in
def iC (a:ew):Z:=if 200<a.length then 6 else if fj a then 0 else 1
open Classical in
theorem HX (a:ew) (b:X) (c:Z) (f:b<a.length) (d:a[b].length<4611686018427387904) (e:a[b].Pairwise (· < ·)):wD ((a,()),(b:Z),c,())=Y (br (c∈a[b]),()):=by rw[<-bP];grind [bu,Ko,bX,ahl,wD]
theorem Fm (a:ew) (p:∀z∈a,z.length<4611686018427387904):yT ((a,()),())=Y (iC a,()):=by
 classical
 rw[<-bP];unfold yT;simp only[bZ,bX,bu];refine⟨λi=>?_,λi=>?_⟩
 ·grind [iC]
 have G:¬200<a.length:=(by grind);have C:¬fj a->(1:Z)=iC a:=λi=>(by grind [iC]);refine cz (P:=λh=>(h=.inr (1,())/\¬fj a)\/(h=.inl ()/\∀d,(i:d<a.length)->qs a[d] a.length/\(d:Z)∉a[d])) ?_ ?_
 ·refine ae.for (i0:=0) a.length (λc _=>∀d,d<c->(i:d<a.length)->qs a[d] a.length/\(d:Z)∉a[d]) rfl (λd l=>by omega) (c8 _) ?_ ?_
  ·rintro c _ _ g t;simp only[bZ,bX,bu,ahl];refine⟨λ_=>⟨g,?_⟩,λr=>by grind⟩;rw[SO _ _ (p _ (cO g))];simp only[bu];refine⟨λq=>?_,λq=>.inl ⟨trivial,λf=>?_⟩⟩
   ·have q:qs a[c] a.length:=(by grind);rw[HX a c c g (p _ (cO g)) q.1];simp only[bu,bZ];refine⟨λx=>.inl ⟨trivial,λf=>f.Nl c g (by grind)⟩,λx=>⟨iU aa,λd l D=>?_⟩⟩;grind
   have:=f.asc c g;grind
  simp_all [bZ,bu,trivial]
 rintro h (⟨rfl,f⟩|⟨rfl,o⟩)
 ·grind [bu]
 simp only[bX];have J:(∀e,(i:e<a.length)->∀k∈a[e],∀b:X,k=(b:Z)->(j:b<a.length)->(e:Z)∈a[b])->fj a:=λi=>⟨λe f=>(o e f).1,λe f=>(o e f).2,λe f b j s=>i e f b s b bn j⟩;refine cz (P:=λh=>(h=.inr (1,())/\¬fj a)\/(h=.inl ()/\∀e,(i:e<a.length)->∀k∈a[e],∀b:X,k=(b:Z)->(j:b<a.length)->(e:Z)∈a[b])) ?_ ?_
 ·refine ae.for (i0:=0) a.length (λc _=>∀e,e<c->(i:e<a.length)->∀k∈a[e],∀b:X,k=(b:Z)->(j:b<a.length)->(e:Z)∈a[b]) rfl (λd l=>by omega) (c8 _) ?_ ?_
  ·rintro c _ _ g t;simp only[bZ,bX,ahl];refine⟨λ_=>⟨g,?_⟩,λr=>by grind⟩;have E:=p _ (cO g);refine cz (P:=λh=>(h=.inr (.inr (.inr (1,())))/\¬fj a)\/(h=.inl ()/\∀k∈a[c],∀b:X,k=(b:Z)->(j:b<a.length)->(c:Z)∈a[b])) ?_ ?_
   ·refine ae.for (i0:=0) a[c].length (λd _=>∀m,m<d->(i:m<a[c].length)->∀b:X,a[c][m]=(b:Z)->(j:b<a.length)->(c:Z)∈a[b]) rfl (λd l=>by omega) (c8 _) ?_ ?_
    ·rintro d _ _ l v;simp only[bZ,bX,ahl];refine⟨λ_=>⟨l,?_⟩,λr=>by grind⟩;have I:=(o c g).1.2 _ (cO l);obtain⟨b,j⟩:∃b:X,a[c][d]=(b:Z):=⟨a[c][d].toNat,aa⟩;have n:b<a.length:=aa;rw[j,HX a b c n (p _ (cO n)) (o b n).1.1];simp only[bu,bZ];refine⟨λH=>.inl ⟨trivial,λf=>?_⟩,λM=>⟨iU aa,λm s F B K L=>?_⟩⟩
     ·have:=f.sym c g b n (j▸cO l);grind
     rcases cS m d with u|u
     ·grind
     obtain rfl:m=d:=aa;have:B=b:=aa;grind
    intro A v;simp only[bZ,bu];refine⟨λr=>by grind,λ_=>.inr ⟨trivial,λk y b j n=>?_⟩⟩;obtain⟨m,s,rfl⟩:=ho.1 y;grind
   rintro h (⟨rfl,f⟩|⟨rfl,w⟩)
   ·simp_all [trivial,bu]
   grind [bu,iU,cl]
  intro A t;simp only[bZ,bu];grind
 rintro h (⟨rfl,f⟩|⟨rfl,w⟩)
 ·grind [bu]
 grind [bu,iC]
end
section
inductive qM (A:X->X->Prop) (k:X):X->X->Prop
 |one {i j:X}:A i j->qM A k i j
 |step {i m j:X}:A i m->m<k->qM A k m j->qM A k i j
section
variable {A:X->X->Prop} {k:X}
end
end
section
def j0 (A:ew) (a b:X):Prop:=∃c:a<A.length,(b:Z)∈A[a]
def j0.lt {A:ew} (f:fj A) (b:j0 A a c):a<A.length/\c<A.length:=by obtain⟨d,e⟩:=b;have:=(f.asc a d).2 _ e;omega
def j0.symm {A:ew} (e:fj A):∀a b,j0 A a b->j0 A b a:=λa b c=>by obtain⟨f,d⟩:=c.lt e;exact⟨d,e.sym a f b d c.2⟩
def j0.ne {A:ew} (e:fj A) (b:j0 A a c):a≠c:=λd=>by subst d;exact e.Nl a b.1 b.2
def qM.lt {A:ew} (b:fj A) {e c j:X} (a:qM (j0 A) e c j):c<A.length/\j<A.length:=by
 induction a with
 |one a=>exact a.lt b
 |step a _ _ d=>exact⟨(a.lt b).1,d.2⟩
inductive Bm (R:X->X->Prop):X->X->Prop
 |refl (u:X):Bm R u u
 |step {u p v:X}:R u p->Bm R p v->Bm R u v
section
variable (A:ew)
variable {A} {j:X} {T:X->Prop} {par B:ahc}
end
end
section
def yf (c:ew) (a b:X):Prop:=b=a\/(a<b/\qM (j0 c) a a b)
open Classical in
def ud (c:ew) (b d:X):ahc:=((bH d).filter λa=>br (b<=a/\yf c b a)).map λ(a:X)=>(a:Z)
def g2 (a:ew) (b:X):ahc:=ud a b a.length
def yf.le (b:yf i c a):c<=a:=by rcases b with b|b<;>omega
def uY:(a:Z)∈g2 i c↔a<i.length/\yf i c a:=by
 unfold g2 ud;simp only[eP,hx,h9,ahD];constructor
 ·rintro⟨e,⟨d,b⟩,f⟩;have:e=a:=aa;subst this;exact⟨d,b.2⟩
 exactλ⟨d,b⟩=>⟨a,⟨d,b.le,b⟩,bn⟩
def JK (c:X->bA) (b:X):(((bH b).filter c).map λ(a:X)=>(a:Z)).Pairwise (· < ·):=by rw[oM];refine am0 _ ?_;exact List.pairwise_lt_range.imp (λd=>by omega)
def LS (a:ew) (b:X):(g2 a b).Pairwise (· < ·):=JK _ _
def Ty (b:ew) (c a:X):(ud b c a).length<=a:=by unfold ud;rw[e8];exact dh (kv _ _) ac
end
theorem A3 (a:ahc) (b:Z) (h:a.length<4611686018427387904):sp (a,b,())=Y (br (b∈a),()):=by
 rw[<-bP];unfold sp;simp only[bX];refine ae.for (i0:=0) a.length (λc _=>b∉a.take c) rfl ac (c8 _) ?_ ?_
 ·rintro c _ _ d e;simp only[bZ,bX,bu,ahl];refine⟨λ_=>⟨d,λf=>?_,λi=>⟨iU aa,?_⟩⟩,λg=>by grind⟩
  ·grind
  grind [tk,ahk]
 simp_all [bZ,bu,hS]
def Rp (a:Z):bC.wrap a=a %18446744073709551616:=by unfold aiU;rw[aw (by simp[al0])];rfl
def hz (a:eu) (b c:X):bA:=(a.getD b []).getD c bq
def mC (c:eu) (b d:X):ahc:=((bH d).filter λa=>b !=a&&(hz c b a||hz c a b)).map λ(a:X)=>(a:Z)
def jP (a:eu):ew:=(bH a.length).map λb=>mC a b a.length
theorem NL (b:eu) (c a:X):(mC b c a).length<=a:=by grind [cA,ahF,cj,mC]
theorem NM (c:eu) (b a:X):mC c b (a+1)=mC c b a++(if(b !=a&&(hz c b a||hz c a b))=bp then[(a:Z)] else[]):=by unfold mC;rw[iM,pz,iy];grind
theorem wj (b:a<o.length) (d:c<o[a].length):hz o a c=o[a][c]:=by grind [ahX,hz]
theorem Ks (a:eu) (p:∀k∈a,k.length=a.length) (y:a.length<=4294967296):zp (a,())=Y ((jP a,()),()):=by
 rw[<-bP];unfold zp;have v:hD=4294967296:=rfl;simp only[bX];refine cz (P:=λd=>d.2.1.1=jP a) ?_ ?_
 ·refine ae.for (i0:=0) a.length (λc l=>l.2.1.1=(bH c).map λc=>mC a c a.length) rfl rfl (c8 _) ?_ ?_
  ·rintro c ⟨l,h,_⟩ _ i g;simp only at g;simp only[bZ,bX,bu];refine⟨λ_=>?_,λm=>by grind⟩;refine cz (P:=λd=>d.2.1=h/\d.2.2.1=mC a c a.length) ?_ ?_
   ·refine ae.for (i0:=0) a.length (λe d=>d.2.1=h/\d.2.2.1=mC a c e) rfl ⟨bn,bn⟩ (c8 _) ?_ ?_
    ·rintro e ⟨s,q,k,_⟩ _ j ⟨n,o⟩;simp only at o n;subst n;have t:=p _ (cO i);have u:=p _ (cO j);simp only[bZ (b:=decide _),bX (x:=bB _ _)];refine⟨λ_=>?_,λm=>by grind⟩;rw[bX];refine cz (P:=λd=>d=((c !=e&&(hz a c e||hz a e c)),s,q,k,())) ?_ ?_
     ·simp only[bZ,bX,bu,ahl];rw[wj i aa,wj j aa];refine⟨λf=>⟨i,aa,λr=>⟨j,aa,?_⟩,λr=>?_⟩,λf=>?_⟩
      ·have f:c≠e:=(by grind);grind
      ·have f:c≠e:=(by grind);grind
      grind
     rintro d rfl;have w:=NL a c e;simp only[bZ,bX,bu,aiX];refine⟨λf=>⟨by grind,iU aa,trivial,?_⟩,λf=>⟨iU aa,trivial,?_⟩⟩
     ·rw[NM,au f,o]
     simp_all [NM,aw,oJ]
    simp_all [bZ,bu,trivial]
   grind [bX,bu,aiX,iU,ahG]
  rintro⟨l,h,_⟩ g;simp only at g;simp only[bZ,bu];exact⟨λm=>by grind,λ_=>g⟩
 grind [bu]
theorem N0:(a:Z)∈mC o c j↔a<j/\c≠a/\(hz o c a||hz o a c)=bp:=by unfold mC;grind
theorem HC (b:eu):fj (jP b):=by
 have e:(jP b).length=b.length:=(by simp[jP]);have d:∀a,(c:a<(jP b).length)->(jP b)[a]=mC b a b.length:=λa c=>(by simp[jP]);refine⟨λa c=>?_,λa c=>?_,λa c i h g=>?_⟩
 ·rw[d a c,e];refine⟨JK _ _,λj f=>?_⟩;unfold mC at f;grind
 ·grind [N0]
 grind [N0,Bool.or_comm]
def Vl (a:eu):(jP a).length=a.length:=by simp[jP]
theorem Vm (b:eu):∀a∈jP b,a.length<=b.length:=by intro a c;unfold jP at c;grind [NL]
def Tz (r:fj i) (s:a<i.length):∃f,g2 i a=(a:Z)::f/\(∀c∈f,∃b:X,c=(b:Z)/\a<b/\b<i.length/\qM (j0 i) a a b)/\(∀b:X,a<b->qM (j0 i) a a b->(b:Z)∈f)/\f.Pairwise (· < ·):=by
 have l:(a:Z)∈g2 i a:=uY.2 ⟨s,.inl bn⟩;have h:=LS i a;have j:∀c∈g2 i a,∃b:X,c=(b:Z)/\b<i.length/\yf i a b:=(by intro c e;have t:=e;unfold g2 ud at e;simp only[eP] at e;obtain⟨b,_,rfl⟩:=e;exact⟨b,bn,uY.1 t⟩);generalize q:g2 i a=o at l h j;cases o with
 |nil=>cases l
 |cons c f=>
  rw[mP] at h;have e:c=(a:Z):=by
   obtain⟨b,rfl,_,k⟩:=j c (ng ..);have:=k.le;rcases fR.1 l with d|d
   ·exact d.symm
   have:=h.1 _ d;omega
  subst e;refine⟨f,bn,λu n=>?_,λb k m=>?_,h.2⟩
  ·obtain⟨b,rfl,p,g⟩:=j u (g6 _ n);have:=h.1 _ n;rcases g with g|g
   ·omega
   exact⟨b,bn,g.1,p,g.2⟩
  have:(b:Z)∈g2 i a:=uY.2 ⟨(m.lt r).2,.inr ⟨k,m⟩⟩;rw[q] at this;rcases fR.1 this with d|d
  ·omega
  exact d
theorem gQ {a:bm l} {i:X} {b:l} (c:a[i]?=Y b):al a (i:Z)=Y b:=by unfold al;rw[au aa,fA,c]
theorem FJ (b:ew):fj b↔∀a,(f:a<b.length)->b[a].Pairwise (· < ·)/\∀c,(e:c<b[a].length)->(0<=b[a][c]/\b[a][c]<b.length)/\b[a][c]≠(a:Z)/\(a:Z)∈b.getD (b[a][c]).toNat []:=by
 constructor
 ·rintro⟨g,j,k⟩ a d;refine⟨(g a d).1,λc e=>?_⟩;have l:=(g a d).2 _ (cO e);grind
 intro f;refine⟨λa d=>⟨(f a d).1,λp n=>?_⟩,λa d h=>?_,λa d o m h=>?_⟩
 ·grind [ahY]
 ·grind [ahY]
 obtain⟨c,e,i⟩:=ho.1 h;grind [ahR,bR]
theorem AB (a:ew) (s:∀B∈a,B.length<4611686018427387904):uz ((a,()),())=Y (iC a,()):=by
 classical
 rw[<-bP];unfold uz;simp only[bZ,bu,bX];refine⟨λd=>?_,λd=>?_⟩
 ·grind [iC]
 have E:¬200<a.length:=(by grind);refine cz (P:=λg=>(g=.inl ()/\fj a)\/(g=.inr (1,())/\¬fj a)) ?_ ?_
 rotate_left
 ·rintro _ (⟨rfl,e⟩|⟨rfl,e⟩)
  ·grind [bu,iC]
  grind [bu,iC]
 refine ae.for (i0:=0) a.length (λn _=>∀b,(d:b<a.length)->b<n->a[b].Pairwise (· < ·)/\∀c,(f:c<a[b].length)->(0<=a[b][c]/\a[b][c]<a.length)/\a[b][c]≠(b:Z)/\(b:Z)∈a.getD (a[b][c]).toNat []) rfl (λb _ d=>by omega) (c8 _) ?_ ?_
 ·rintro b _ _ e i;have A:=s _ (cO e);simp only[bZ,bu,bX,ahl];refine⟨λ_=>⟨e,?_⟩,λh=>by grind⟩;rw[Km _ A];simp only[bu];refine⟨λl=>.inr ⟨trivial,λk=>?_⟩,λl=>?_⟩
  ·have:=(k.asc b e).1;grind
  have l:a[b].Pairwise (· < ·):=(by grind);refine cz (P:=λg=>(g=.inl ()/\∀c,(f:c<a[b].length)->(0<=a[b][c]/\a[b][c]<a.length)/\a[b][c]≠(b:Z)/\(b:Z)∈a.getD (a[b][c]).toNat [])\/(g=.inr (.inr (.inr (1,())))/\¬fj a)) ?_ ?_
  rotate_left
  ·rintro _ (⟨rfl,t⟩|⟨rfl,t⟩)
   ·simp only[bu];refine⟨iU aa,λp z G=>?_⟩;rcases cS p b with d|d
    ·exact i p z d
    obtain rfl:p=b:=aa;exact⟨l,t⟩
   simp_all [bu,trivial]
  refine ae.for (i0:=0) a[b].length (λn _=>∀c,(f:c<a[b].length)->c<n->(0<=a[b][c]/\a[b][c]<a.length)/\a[b][c]≠(b:Z)/\(b:Z)∈a.getD (a[b][c]).toNat []) rfl (λb _ d=>by omega) (c8 _) ?_ ?_
  ·rintro c _ _ f j;have m:¬((0<=a[b][c]/\a[b][c]<a.length)/\a[b][c]≠(b:Z)/\(b:Z)∈a.getD (a[b][c]).toNat [])->¬fj a:=λd k=>d (((FJ a).1 k b e).2 c f);simp only[bZ,bu,bX,ahl];refine⟨e,λ_=>⟨e,f,λq=>⟨λr=>⟨λu=>?_,λu=>?_⟩,λr=>?_⟩,λq=>?_⟩,λh=>by simp_all⟩
   ·have y:0<=a[b][c]/\a[b][c]<(a.length:Z):=(by simp_all);have F:a[b][c]≠(b:Z):=(by simp_all);rw[ae.MW];refine⟨aa,y.1,?_⟩;rw[A3 _ _ (s _ (cO _))];have C:a.getD (a[b][c]).toNat []=a[(a[b][c]).toNat]'(by omega):=by
     simp_all
    simp only[bu];refine⟨λv=>.inr ⟨trivial,m ?_⟩,λv=>⟨iU aa,λo x D=>?_⟩⟩
    ·simp_all
    rcases cS o c with d|d
    ·exact j o x d
    obtain rfl:o=c:=aa;simp_all
   ·simp_all
   ·refine .inr ⟨trivial,m (λw=>?_)⟩;simp at r;omega
   refine .inr ⟨trivial,m (λw=>?_)⟩;simp at q;omega
  rintro _ j;simp only[bZ,bu,bX,ahl];exact⟨e,λh=>by simp at h,λ_=>.inl ⟨trivial,λc f=>j c f f⟩⟩
 rintro _ i;simp only[bZ,bu];exact⟨λh=>by grind,λ_=>.inl ⟨trivial,(FJ a).2 λb e=>i b e e⟩⟩
theorem RX (a:ahc) (c:Z) (q:a.length<4611686018427387904):CZ (a,c,())=Y (br (∀b∈a,0<=b/\b<c),()):=by
 rw[<-bP];unfold CZ;simp only[bX];refine cz (P:=λi=>(i=.inl ()/\∀b∈a,0<=b/\b<c)\/(i=.inr (bq,())/\¬∀b∈a,0<=b/\b<c)) ?_ ?_
 ·refine ae.for (i0:=0) a.length (λf _=>∀d,(e:d<a.length)->d<f->0<=a[d]/\a[d]<c) rfl (λd _ e=>by omega) (c8 _) ?_ ?_
  ·rintro f _ _ g l;have h:¬(0<=a[f]/\a[f]<c)->¬∀b∈a,0<=b/\b<c:=λe n=>e (n _ (cO g));simp only[bZ,bX,bu,ahl];refine⟨λ_=>⟨g,λj=>⟨g,λk=>.inr ⟨trivial,h (λe=>?_)⟩,λk=>⟨iU aa,λd o p=>?_⟩⟩,λj=>.inr ⟨trivial,h (λe=>?_)⟩⟩,λm=>by grind⟩
   ·grind
   ·grind
   grind
  rintro _ l;simp only[bZ,bu];refine⟨λm=>by grind,λ_=>.inl ⟨trivial,λb r=>?_⟩⟩;grind [ahY]
 grind [bu,ahg,ahN]
theorem On:d.Nodup↔∀a,(b:a<d.length)->d[a]∉d.take a:=by grind [ahY,aho,ahh]
theorem R5 (a:ahc) (m:a.length<4611686018427387904):C0 (a,())=Y (br (¬a.Nodup),()):=by
 rw[<-bP];unfold C0;simp only[bX];refine cz (P:=λe=>(e=.inl ()/\a.Nodup)\/(e=.inr (bp,())/\¬a.Nodup)) ?_ ?_
 ·refine ae.for (i0:=0) a.length (λc _=>∀b,(d:b<a.length)->b<c->a[b]∉a.take b) rfl (λb _ d=>by omega) (c8 _) ?_ ?_
  ·rintro c _ _ g h;have ao:gy (c:Z)=Y c:=(by simp_all [au,fA,gy]);have f:hb 0 c a.length=Y ():=(by grind [hb]);simp only[bZ,bX,bu,ahl,ao,f,aC,jo,lj];refine⟨λ_=>⟨g,?_⟩,λj=>by grind⟩;rw[A3 _ _ (by grind)];simp only[bu];refine⟨λd=>.inr ⟨trivial,λi=>?_⟩,λd=>⟨iU aa,λb k l=>?_⟩⟩
   ·simp_all [On,aiP]
   grind
  simp_all [bZ,bu,trivial,On]
 grind [bu,ahN,ahg]
def oA (a:ew):eu:=(bH a.length).map λb=>(bH a.length).map λ(c:X)=>br ((c:Z)∈a.getD b [])
theorem JU (a:ew):(oA a).length=a.length:=by simp[oA]
theorem QT (b:a<i.length):(oA i)[a]?=Y ((bH i.length).map λ(c:X)=>br ((c:Z)∈i[a])):=by simp[oA,b,ahX]
theorem KG (p:∀v∈i,v.length<4611686018427387904) (y:i.length<=200) (r:∀a,(f:a<i.length)->∀o∈i[a],0<=o/\o<(i.length:Z)):zq ((i,()),())=Y (oA i,()):=by
 rw[<-bP];unfold zq;have x:hD=4294967296:=rfl;simp only[bX];refine cz (P:=λd=>d.1=oA i) ?_ (by grind [bu]);refine ae.for (i0:=0) i.length (λu e=>e.1=(oA i).take u) rfl ac (c8 _) ?_ ?_
 ·rintro a ⟨j,_⟩ _ b h;simp only at h;have A:=p _ (cO b);simp only[bZ,bX,ae.Im,fA];refine⟨λ_=>⟨⟨aa,aa,aa⟩,?_⟩,λq=>by grind⟩;refine cz (P:=λd=>d.1=j/\d.2.1=(bH i.length).map λ(l:X)=>br ((l:Z)∈i[a])) ?_ ?_
  ·refine ae.for (i0:=0) i[a].length (λc e=>e.1=j/\e.2.1=(bH i.length).map λ(l:X)=>br ((l:Z)∈i[a].take c)) rfl ⟨bn,?_⟩ (c8 _) ?_ ?_
   ·apply hQ;grind
   ·rintro c ⟨B,w,_⟩ _ g ⟨m,n⟩;simp only at m n;have t:=r a b _ (cO g);have z:w.length=i.length:=(by grind);simp only[bZ,bX,ahl,ae.DM,ae.Bu,bu];refine⟨b,λ_=>⟨b,g,⟨t.1,aa⟩,aa,iU aa,m,?_⟩,λq=>by grind⟩;apply hQ;intro k;rw[vQ,n,jn,jn];rcases cS k i.length with f|f
    ·rw[A7 f];simp only[jo,<-tk g,h8,gj,e8,lR];by_cases s:(i[a][c]).toNat=k
     ·grind
     rw[aw s];have:¬(k:Z)=i[a][c]:=aa;grind
    grind
   simp_all [bZ,bX,ahl,bu,hS]
  grind [bX,aiX,bu,iU,QT,ct]
 rintro⟨j,_⟩ h;simp only at h;simp only[bZ,bu];grind [JU,cB]
theorem Mm (a:X) (h:a<=4294967296):zr ((a:Z),())=Y (bJ a (bJ a bq),()):=by
 rw[<-bP];unfold zr;have g:hD=4294967296:=rfl;simp only[bX];refine cz (P:=λd=>d.1=bJ a (bJ a bq)) ?_ (by grind [bu]);refine ae.for (i0:=0) a (λb e=>e.1=bJ b (bJ a bq)) rfl rfl (c8 _) ?_ ?_
 ·rintro b ⟨i,_⟩ _ f c;simp only at c;simp only[bZ,bX,bu,ae.Im,aiX,fA];grind [List.replicate_succ',iU]
 simp_all [bZ,bu]
section
def aB {α:Type} (b:X) (a:X->α):bm α:=(bH b).map a
def eC {α:Type} (b:X->α) (c:X) (d:α):X->α:=λa=>if a=c then d else b a
section
variable {α A B:Type}
theorem gM (c:X->α) (a:X) (b:α):eC c a b a=b:=au bn
theorem he (b:X->α) (e:α) (d:a≠c):eC b c e a=b a:=aw d
theorem cY (a:X) (b:X->α):(aB a b).length=a:=by simp[aB]
theorem oc (c:X) (b:X->α) (a:X):(aB c b)[a]?=if a<c then Y (b a) else bo:=by unfold aB;grind
theorem ju {b:X->α} (d:a<c):(aB c b)[a]?=Y (b a):=by rw[oc,au d]
theorem lx {b:X->α} (d:a<(aB c b).length):(aB c b)[a]=b a:=by simp[aB]
theorem c9 {c d:X->α} (e:∀b,b<a->c b=d b):aB a c=aB a d:=ik λb f=>e b (h9.1 f)
theorem UX (a:X->α):aB 0 a=[]:=rfl
theorem zI (b:X) (a:X->α):aB (b+1) a=aB b a++[a b]:=by simp[aB,iM]
theorem jj (a:X) (b:α):bJ a b=aB a λ_=>b:=by apply hQ;grind [oc]
theorem hC {b:X->α} (d:α):(aB c b).set a d=aB c (eC b a d):=by apply hQ;intro e;rw[vQ,oc,oc,cY];unfold eC;grind
def NY {b:X->α} {d:α}:d∈aB a b↔∃c,c<a/\b c=d:=by simp[aB]
theorem UW (a:bm α) (c:X->α) (d:∀b,(e:b<a.length)->a[b]=c b):a=aB a.length c:=by apply hQ;grind [aiT,bR,oc]
theorem Ds (c a:X) (b:X->α) (d:a<=c):(aB c b).take a=aB a b:=by apply hQ;intro e;rw[ajF,oc,oc];grind
theorem UU (d a:X) (b:X->α):(aB d b).drop a=aB (d-a) (λc=>b (a+c)):=by apply hQ;intro c;rw[pD,oc,oc];grind
theorem zH (b e:X) (c d:X->α):aB b c++aB e d=aB (b+e) (λa=>if a<b then c a else d (a-b)):=by apply hQ;intro a;rw[List.getElem?_append,cY,oc,oc,oc];grind
theorem eT {n i:X} (a:i<n):bj n (i:Z)=Y i:=by simp_all [au,bj]
theorem gn {c:bm α} {v:α} {b:α->bv A} (d:c[a]?=Y v):bb c a b=b v:=by grind [bb]
theorem gW {b:X->α} {d:α->bv A} (e:a<c):bb (aB c b) a d=d (b a):=gn (ju e)
def rj {b:X->α} (d:a<c):al (aB c b) (a:Z)=Y (b a):=gQ (ju d)
theorem eB (b:a<=4294967296):cG a=Y ():=au b
theorem ij (b:a<=4294967296):fX (a:Z) (a:Z)=Y a:=by unfold fX;rw[au ⟨aa,aa,by have:hD=4294967296:=rfl;omega⟩];simp
theorem u1:gy (a:Z)=Y a:=by simp_all [au,gy]
theorem qa (b:c<=a/\a<=j):hb c a j=Y ():=au b
def Jd (b:0<a):nL a=Y ():=rfl
theorem gH (a b:Z):(a==b)=br (a=b):=by grind
theorem gb (a b:Z):(a !=b)=!br (a=b):=by grind
theorem aH [ahS p] (a:p):decide p=bp:=ahg a
theorem aF [ahS p] (a:¬p):decide p=bq:=ahN a
theorem aY {a b:α} (c:h=bp):(bif h then a else b)=a:=by grind
theorem a1 {b a:α} (c:h=bq):(bif h then b else a)=a:=by grind
theorem cQ [ahS p] {a b:α}:(bif decide p then a else b)=if p then a else b:=by grind
theorem yK [ahS p] {a b:α}:(bif decide p==bp then a else b)=if p then a else b:=by grind
theorem wx [ahS p] {a b:α}:(bif decide p==bq then a else b)=if p then b else a:=by grind
theorem AV (b:a<9223372036854775808):bK.wrap (a:Z)=(a:Z):=cq aa aa
theorem Rq (b:a+c<9223372036854775808):bK.wrap ((a:Z)+(c:Z))=((a+c:X):Z):=by grind [cq]
theorem ad5 (d:c<=a) (b:a<9223372036854775808):bK.wrap ((a:Z)-(c:Z))=((a-c:X):Z):=by grind [cq]
theorem vx (c:1<=a) (b:a<9223372036854775808):bK.wrap ((a:Z)-1)=((a-1:X):Z):=by grind [cq]
theorem iT (b:a+1<9223372036854775808):bK.wrap ((a:Z)+1)=((a+1:X):Z):=by grind [cq]
end
def ae.of_eq {α:Type} {b:bv α} {y:α} {a:α->Prop} (c:b=Y y) (d:a y):ae b a:=⟨y,c,d⟩
theorem ae.aK {α A:Type} {c:bv α} {b:α->bv A} {P:α->Prop} {a:A->Prop} (e:ae c P) (f:∀d,P d->ae (b d) a):ae (c.bind b) a:=
 bX.2 (e.mono f)
theorem ae.ite {α:Type} [ahS p] {b c:bv α} {a:α->Prop} (d:p->ae b a) (e:¬p->ae c a):ae (if p then b else c) a:=by grind
theorem ah {α A:Type} {c:bv α} {a:α->bv A} {y:α} {b:bv A} (d:c=Y y) (e:a y=b):c.bind a=b:=by grind
theorem z2 {f:Z×l->bv ((Z×l)⊕t)} {g:t} {h:l} (d:X) (c:X->l) (e:X) (j:b=(e:Z)) (k:h=c e) (i:e<=d) (o:∀a,e<=a->a<d->f ((a:Z),c a)=Y (.inl (((a+1:X):Z),c (a+1)))) (n:f ((d:Z),c d)=Y (.inr g)):loop f (b,h)=Y g:=by
 subst j k;rw[<-bP];refine ae.for d (λa m=>m=c a) rfl rfl i ?_ ?_
 ·grind [bu]
 grind [bu]
theorem sX {τ:Type} {h:Z×τ->bv ((Z×τ)⊕l)} (f:X) (e:X->Prop) (g:τ) (m k:l) (d:X) (r:b=(d:Z)) (q:d<=f) (s:∀a,d<=a->a<f->(∀c,d<=c->c<a->e c)->h ((a:Z),g)=Y (open Classical in if e a then .inl (((a+1:X):Z),g) else .inr k)) (v:(∀c,d<=c->c<f->e c)->h ((f:Z),g)=Y (.inr m)):loop h (b,g)=Y (open Classical in if∀a,d<=a->a<f->e a then m else k):=by
 classical
 subst r;rw[<-bP];refine ae.for f (λa t=>t=g/\∀c,d<=c->c<a->e c) rfl ⟨bn,λc i u=>by omega⟩ q ?_ ?_
 ·rintro a _ n i ⟨rfl,o⟩;rw[s a n i o];by_cases j:e a
  ·rw[au j];grind [cl,bu]
  rw[aw j];exact bu.2 (by rw[aw (λp=>j (p a n i))])
 rintro _ ⟨rfl,o⟩;simp_all [bu,au]
theorem Ii {d:Z×bt->bv dQ} (c:X) (b:X->Prop) (h:∀a,a<c->d ((a:Z),())=Y (open Classical in if b a then .inl (((a+1:X):Z),()) else .inr (.inr ((a:Z),())))) (m:d ((c:Z),())=Y (.inr (.inl ()))):ae (loop d (0,())) (λi=>match i with|.inl _=>∀a,a<c->b a|.inr j=>0<=j.1/\¬∀a,a<c->b a):=by
 classical
 refine ae.for c (λa _=>∀e,e<a->b e) (i0:=0) rfl (λe k=>by omega) (c8 _) ?_ ?_
 ·rintro a ⟨⟩ _ g l;rw[h a g];by_cases f:b a
  ·rw[au f];grind [cl,bu]
  rw[aw f];grind [bu]
 grind [bu]
end
theorem Kf (a:Z):cb.wrap a=a %4294967296:=by unfold aiU;exact aw (ac:¬(bq&&br (a %4294967296>=(2147483648:Z)))=bp)
theorem AW (a:Z):bC.wrap a=a %18446744073709551616:=by unfold aiU;exact aw (ac:¬(bq&&br (a %18446744073709551616>=(9223372036854775808:Z)))=bp)
theorem tq (a:0<=b) (c:b<18446744073709551616):bC.wrap b=b:=by grind [AW]
theorem Kg (a:0<=b) (c:b<4294967296):cb.wrap b=b:=by grind [Kf]
theorem tX (b:a<18446744073709551616):(ch 64 (a:Z)).toNat=a:=by grind
theorem K0 (e:a<18446744073709551616) (f:c<18446744073709551616):ey .u64 (a:Z) (c:Z)=((a&&&c:X):Z):=by have b:((ch 64 (a:Z))&&&(ch 64 (c:Z))).toNat=a&&&c:=(by grind);have d:a&&&c<=a:=al1;unfold ey;rw[show bC.bits=64 from rfl,b];grind [tq]
theorem KZ (e:a<4294967296) (f:c<4294967296):ey .u32 (a:Z) (c:Z)=((a&&&c:X):Z):=by have b:((ch 32 (a:Z))&&&(ch 32 (c:Z))).toNat=a&&&c:=(by grind);have d:a&&&c<=a:=al1;unfold ey;rw[show cb.bits=32 from rfl,b];grind [Kg]
theorem aay (d:a<18446744073709551616) (e:c<18446744073709551616):fN .u64 (a:Z) (c:Z)=((a|||c:X):Z):=by have b:(ch 64 (a:Z)|||ch 64 (c:Z)).toNat=a|||c:=(by grind);have f:a|||c<2^64:=ak1 d e;unfold fN;rw[show bC.bits=64 from rfl,b];grind [tq]
theorem aax (d:a<4294967296) (e:c<4294967296):fN .u32 (a:Z) (c:Z)=((a|||c:X):Z):=by have b:(ch 32 (a:Z)|||ch 32 (c:Z)).toNat=a|||c:=(by grind);have f:a|||c<2^32:=ak1 d e;unfold fN;rw[show cb.bits=32 from rfl,b];grind [Kg]
theorem r7 (a:X) (d:0<=b) (f:b<18446744073709551616) (c:Z) (e:a<=64) (i:c=2^a-1):ey .u64 b c=b %2^a:=by obtain⟨k,rfl⟩:=gg d;have j:0<2^a:=jG a;have g:c=((2^a-1:X):Z):=(by grind);have h:2^a<=2^64:=tL ab e;grind [K0,ak2]
theorem and_low32 (a:0<=b) (c:b<18446744073709551616):ey .u64 b 4294967295=b %4294967296:=r7 32 a c _ ab ab
theorem m7 (a:Z):eM .u64 a 32=Y (a/4294967296):=by have:eM .u64 a 32=Y (a.fdiv 4294967296):=rfl;grind
theorem nR (a:0<=b) (c:b<=64):h6 .u64 e b=Y ((e*2^b.toNat) %18446744073709551616):=by unfold h6;rw[au a,AW,show bC.bits=64 from rfl,h1 aa]
theorem vl (a:0<=b) (c:b<=64):eM .u64 e b=Y (e/2^b.toNat):=by unfold eM;rw[au a,show bC.bits=64 from rfl,h1 aa,al2 _ (by grind)]
theorem K3 (b:X) (d:a<2^b):a|||(c*2^b)=a+c*2^b:=by rw[ai6,Nat.or_comm,qF,Nat.two_pow_add_eq_or_of_lt d]
theorem m3 (a:X) (d:0<=b) (h:b<2^a) (f:0<=e) (i:b<18446744073709551616) (j:e<18446744073709551616) (l:e %2^a=0):fN .u64 b e=b+e:=by obtain⟨g,rfl⟩:=gg d;obtain⟨c,rfl⟩:=gg f;have n:g<2^a:=(by grind);have m:c %2^a=0:=(by grind);rw[aay aa aa];have k:c=(c/2^a)*2^a:=(by grind [Nat.mul_comm,ajS]);grind [K3]
def aL (a:X):X:=if a=0 then 0 else a.log2+1
theorem gp:aL c<=a↔c<2^a:=by grind [Nat.log2_lt,aji,aL]
def qQ:a<aL c↔2^a<=c:=by rw[<-Nat.not_le,gp,Nat.not_lt]
def rx (a b:X) (c:a<=b):2^a<=2^b:=tL ab c
def aaE (a b:X) (c:a<b):2^a<2^b:=al3 ab c
def lX (b:c<=a):aL c<=aL a:=by rw[gp];have:=gp.1 (bd (aL a));omega
theorem Bz {b:X} (d:aL a<=j) (e:aL c<=b):aL (a*c)<=j+b:=by simp_all [Nat.mul_lt_mul'',gp,jf]
def S1 (b:X) (d:aL a<=b) (e:aL c<=b):aL (a+c)<=b+1:=by rw[gp] at*;omega
theorem aa5 {b:X} (e:c*2^j=a*2^b) (f:0<c):0<a:=by
 rcases n0 a with d|d
 ·simp_all [al4,jG,Nat.zero_mul]
 omega
theorem pQ {m:X} (a:0<m):0<aL m:=qQ.2 a
def Lp {k:X} (b:2^k<=a) (c:a<2^(k+1)):aL a=k+1:=by have:=qQ.2 b;have:=gp.2 c;omega
theorem tV (b:0<a):2^(aL a-1)<=a/\a<2^aL a:=
 ⟨qQ.1 (by grind [pQ]),gp.1 (bd _)⟩
theorem oY (d:0<a) (b:X):aL (a*2^b)=aL a+b:=by
 obtain⟨e,f⟩:=tV d;have i:=jG b;have h:=pQ d;obtain⟨c,g⟩:∃c,aL a=c+1:=⟨aL a-1,aa⟩;rw[g] at e f|-;rw[(aa:c+1+b=(c+b)+1)];refine Lp ?_ ?_
 ·simp_all [iz,jf]
 rw[(aa:c+b+1=(c+1)+b),jf];simp_all
theorem wl (b a:X):aL (b/2^a)=aL b-a:=by
 have c:=jG a;apply Nat.le_antisymm
 ·rw[gp,ajR c,<-jf];exact gp.1 aa
 rcases cS a (aL b) with d|d
 ·have:aL b-a-1<aL (b/2^a):=by
   rw[qQ,ak3 c,<-jf];exact qQ.1 aa
  omega
 omega
def vw (c:bA) (b:Z) (d:bA) (a:Z):bA:=
 if a=1 then c else if a=2 then !c else if a=3 then bq else br (0<b)||(br (b=0)&&d)
def kC (b a:X) (c:bA):Z:=
 if 2*(b %2^a)<2^a then-1 else if 2^a<2*(b %2^a) then 1 else if c then 1 else 0
def hV (e:bA) (a b:X) (c:bA) (d:Z):X:=
 if a %2^b=0/\c=bq then a/2^b
 else if vw e (kC a b c) (br (a/2^b %2=1)) d then a/2^b+1 else a/2^b
def Iv (b a c:X):b %2^(a+c)=(b/2^a %2^c)*2^a+b %2^a:=by rw[jf,Nat.mod_mul,ai6,qF]
def L9 (b a c:X):b/2^(a+c)=b/2^a/2^c:=by rw[jf,al5]
theorem TO (m:bA) (b a c:X) (d:bA) (l:Z) (v:0<c):hV m b (a+c) d l=hV m (b/2^a) c (d||br (b %2^a≠0)) l:=by
 have k:=jG a;have j:=aiI b k;have q:¬(b %2^(a+c)=0/\d=bq)->kC b (a+c) d=kC (b/2^a) c (d||br (b %2^a≠0)):=by
  intro _;unfold kC;rw[Iv,jf];obtain⟨i,rfl⟩:∃i,c=i+1:=⟨c-1,aa⟩;rw[tM];generalize u:b/2^a %(2^i*2)=h;generalize t:b %2^a=n at j|-;generalize s:2^i=g;generalize r:2^a=e at j k|-;rw[show e*(g*2)=2*(g*e) by grind,show 2*(h*e+n)=2*(h*e)+2*n by grind];rcases qE h g with f|f|f
  ·have o:(h+1)*e<=g*e:=iz _ f;grind
  ·grind
  have o:(g+1)*e<=h*e:=iz _ f;grind
 have p:(b %2^(a+c)=0/\d=bq)↔(b/2^a %2^c=0/\(d||br (b %2^a≠0))=bq):=by
  rw[Iv];cases d
  ·simp_all [al4,b8,Bool.false_or,aj3,ne_eq,Decidable.not_not]
  simp
 unfold hV;by_cases f:b %2^(a+c)=0/\d=bq
 ·rw[au f,au (p.1 f),L9]
 simp_all [aw,L9]
def i6 (b:bA) (a:Z):Z:=if b then 9223372036854775808+a else a
def qe (a:bA) (b:Z):Z:=
 if b=3\/(b=1/\a=bq)\/(b=2/\a=bp) then i6 a 9218868437227405311 else i6 a 9218868437227405312
def kl (a:bA) (b:X) (c d:Z):Z:=
 if b<4503599627370496 then i6 a b
 else if b=9007199254740992 then if c+1+1075>=2047 then qe a d else i6 a ((c+1+1075)*4503599627370496)
 else if c+1075>=2047 then qe a d else i6 a ((c+1075)*4503599627370496+(b-4503599627370496))
def c7 (b:X) (a:Z):Z:=max (a+aL b-1-52) (-1074)
def k6 (d:bA) (b:X) (a:Z) (e:bA) (c:Z):Z:=
 if c7 b a<=a then kl d (b*2^(a-c7 b a).toNat) (c7 b a) c
 else kl d (hV d b (c7 b a-a).toNat e c) (c7 b a) c
theorem adA {m k:X} {e:Z} (a:k<aL m):c7 (m/2^k) (e+k)=c7 m e:=by grind [wl,c7]
theorem ab4 {d:bA} {k:X} (i:k+53<aL a):k6 d a b h u=k6 d (a/2^k) (b+k) (h||br (a %2^k≠0)) u:=by have g:=adA (m:=a) (k:=k) (e:=b) aa;have j:b+k<c7 a b:=(by grind [c7]);unfold k6;rw[g,aw aa,aw aa];obtain⟨c,f⟩:∃c:X,c7 a b-b=(k+c:X):=⟨(c7 a b-b-k).toNat,aa⟩;rw[f,(aa:(c7 a b-(b+k)).toNat=c),fA,TO _ _ _ _ _ _ aa]
def zW:X->X->X
 |0,_=>0
 |f+1,a=>if(2*zW f (a/4)+1)*(2*zW f (a/4)+1)<=a then 2*zW f (a/4)+1 else 2*zW f (a/4)
def HW (a:X):X:=zW (aL a) a
abbrev pq:=bA×ahc×bt
abbrev fZ:=bA×pq×Z×bt
def hl (a:pq):Z:=if a.1 then-ag a.2.1 else ag a.2.1
def aT (a:Z):pq:=(br (a<0),eS a.natAbs,())
theorem oC (a:Z):hl (aT a)=a:=by unfold hl aT;simp only[sC,ahD];omega
theorem ms (a:Z):aQ (aT a).2.1:=ob _
def Dl (a:Z):e5 (aT a).2.1:=w4 _
theorem iq (a:Z):ag (aT a).2.1=a.natAbs:=sC _
theorem w2:(aT b).2.1=[]↔b=0:=by show eS b.natAbs=[]↔_;grind [Um]
theorem Mn {neg:bA} (a:aQ d) (b:e5 d):(neg&&br (d≠[]),d,())=aT (hl (neg,d,())):=by have e:=e7 a;have f:d=eS (ag d).toNat:=e5.eq a b;have g:d=[]↔ag d=0:=⟨λc=>by rw[c];rfl,e5.zero a b⟩;unfold aT hl;grind
def E7:X->X->X
 |0,_=>0
 |f+1,a=>if a %2=0 then E7 f (a/2)+1 else 0
def cN (a:X):X:=if a=0 then 0 else E7 (aL a) a
def adu:∀{a n:X},0<n->n<2^a->∃b,n=(2*b+1)*2^E7 a n:=by
 intro a
 induction a with
 |zero=>omega
 |succ a e=>
  intro n f g;unfold E7;split
  ·rename_i c;obtain⟨b,d⟩:=e (n:=n/2) aa aa;refine⟨b,?_⟩;rw[tM,<-oO,<-d];omega
  rename_i c;exact⟨n/2,aa⟩
theorem tm {n:X} (b:0<n):∃a,n=(2*a+1)*2^cN n:=by unfold cN;rw[aw aa];exact adu b (gp.1 (bd _))
theorem Ov:∀{s t a b:X},(2*a+1)*2^s=(2*b+1)*2^t->s=t/\a=b
 |0,0,a,b,c=>by omega
 |0,t+1,a,b,c=>by grind
 |s+1,0,a,b,c=>by grind
 |s+1,t+1,a,b,c=>by rw[tM,<-oO,tM,<-oO] at c;obtain⟨d,e⟩:=Ov (s:=s) (t:=t) (a:=a) (b:=b) aa;omega
theorem x0 {a:X} (b:c=(2*a+1)*2^j):cN c=j:=by have e:=jG j;have d:0<c:=(by grind);grind [Ov,tm]
theorem E8 (e:0<c) (b:X):cN (c*2^b)=cN c+b:=by obtain⟨d,f⟩:=tm e;refine x0 (a:=d) ?_;grind
theorem adv {n:X} (a:0<n):n/2^cN n %2=1:=by grind [ak4,aji,tm]
theorem rI {n:X} (a:0<n):cN n<aL n:=by obtain⟨b,c⟩:=tm a;rw[qQ];grind
theorem sR {n k:X} (d:0<n):k<=cN n↔n %2^k=0:=by
 obtain⟨c,f⟩:=tm d;constructor
 ·intro i;obtain⟨a,b⟩:∃a,cN n=a+k:=⟨cN n-k,aa⟩;rw[b,jf,<-oO] at f;simp_all
 intro j;rcases cS (cN n) k with e|e
 ·exfalso;obtain⟨a,b⟩:∃a,k=cN n+(a+1):=⟨k-cN n-1,aa⟩;have g:n=n/2^k*2^k:=(by grind [Nat.mul_comm,ajS]);have l:=jG (cN n);have h:(2*c+1)*2^cN n=(2*(n/2^k*2^a))*2^cN n:=by
   grind
  grind [Nat.eq_of_mul_eq_mul_right]
 omega
def rD (b a:Z):Z:=b*2^a.toNat/2^(-a).toNat
def hE (a b:Z):ag6:=
 if a=0 then Y 0
 else if b+cN a.natAbs< -65536\/65536<b+aL a.natAbs then bo
 else Y (rD a (b+65536))
def az:ag6->fZ
 |none=>(bp,(bq,[],()),0,())
 |some a=>if a=0 then(bq,(bq,[],()),0,()) else(bq,aT (a/2^cN a.natAbs),(cN a.natAbs:Z)-65536,())
def fO (a:Z):Prop:=aL a.natAbs<=131072
instance(a:Z):ahS (fO a):=inferInstanceAs (ahS (_<=_))
def mW (a:Z):ag6:=if fO a then Y a else bo
def cL (b:ag6):Prop:=∀a,b=Y a->fO a
theorem iZ (b:Z) (a:X):(b*2^a).natAbs=b.natAbs*2^a:=by rw[vL,Int.natAbs_pow];rfl
theorem zD (c:b.natAbs %2^a=0):b/2^a*2^a=b:=by grind [Int.ediv_mul_cancel,Int.ofNat_dvd_left,Nat.dvd_of_mod_eq_zero]
theorem Ac (c:b.natAbs %2^a=0):(b/2^a).natAbs=b.natAbs/2^a:=by grind [iZ,ak4,aji,zD]
theorem pi (b:Z) (a:X):rD b a=b*2^a:=by grind [ahR,rD]
theorem xW (b:Z) (a:X):rD b (-(a:Z))=b/2^a:=by simp_all [Int.neg_neg,fA,rD]
def cE (a:Z):Z:=a/2^cN a.natAbs
def eQ (a:Z):Z:=(cN a.natAbs:Z)-65536
theorem oq (a:Z):cE a*2^cN a.natAbs=a:=by
 rcases n0 a.natAbs with b|b
 ·obtain rfl:a=0:=aa;rfl
 exact zD ((sR b).1 (bd _))
def Ot (a:b≠0):(cE b).natAbs=b.natAbs/2^cN b.natAbs:=Ac ((sR aa).1 (bd _))
theorem jA (c:b≠0):cE b≠0:=λa=>by grind [oq]
def Ou (c:b≠0):cN (cE b).natAbs=0:=by rw[Ot c];have:=adv (n:=b.natAbs) aa;exact x0 (a:=b.natAbs/2^cN b.natAbs/2) aa
theorem IH (a:b≠0):aL (cE b).natAbs=aL b.natAbs-cN b.natAbs:=by rw[Ot a,wl]
theorem u4 {v:Z}:cE v<0↔v<0:=by
 have c:=oq v;have b:(0:Z)<2^cN v.natAbs:=mg ab;constructor
 ·intro a;have:=Int.mul_neg_of_neg_of_pos a b;omega
 grind [aif,aj4,ahy]
theorem Mp (a:b≠0):az (Y b)=(bq,aT (cE b),eQ b,()):=by show(if b=0 then _ else _)=_;rw[aw a];rfl
theorem D6 {v:Z} (i:-65536<=b) (c:v=e*2^(b+65536).toNat):hE e b=mW v:=by
 obtain⟨d,g⟩:∃d:X,b+65536=d:=⟨(b+65536).toNat,aa⟩;rw[g,fA] at c;unfold hE mW;by_cases f:e=0
 ·subst f;simp only[oI] at c;subst c;rw[au bn,au (show fO 0 from(by decide:aL 0<=131072))]
 rw[aw f];have h:aL v.natAbs=aL e.natAbs+d:=(by grind [iZ,oY]);by_cases a:fO v
 ·rw[au a];unfold fO at a;rw[aw aa,g,pi,c]
 rw[aw a];unfold fO at a;grind
theorem Xg (a:fO b):hE (cE b) (eQ b)=Y b:=by
 by_cases c:b=0
 ·subst c;rfl
 rw[D6 (v:=b) (by grind [eQ]) (by
  grind [oq,cN,eQ])]
 exact au a
theorem Is (f a:Z):cL (hE f a):=by
 intro i b;unfold hE at b;split at b
 ·cases b;show aL 0<=_;decide
 split at b
 ·cases b
 rename_i g h;cases b;unfold fO;rcases al6 0 (a+65536) with e|e
 ·obtain⟨c,d⟩:∃c:X,a+65536=c:=⟨(a+65536).toNat,aa⟩;grind [pi,iZ,oY]
 obtain⟨c,d⟩:∃c:X,a+65536=-(c:Z):=⟨(-(a+65536)).toNat,aa⟩;rw[d,xW,Ac ((sR aa).1 aa),wl];omega
theorem Tq (a:Z):cL (mW a):=by intro c b;grind [mW]
def PE (c a d b:X) (f:0<a):c*2^d/a=c*2^(d+b)/a/2^b:=by have e:=jG b;rw[al5,jf,<-oO,Nat.mul_div_mul_right _ _ e]
theorem abi (d a c b:X) (m:0<a):d*2^c %a≠0↔(d*2^(c+b) %a≠0\/d*2^(c+b)/a %2^b≠0):=by
 have t:=jG b;have r:=r0 (d*2^c) a;have j:=r0 (d*2^(c+b)) a;have k:=r0 (d*2^(c+b)/a) (2^b);rw[<-PE d a c b m] at k;generalize d*2^(c+b)/a=o at*;generalize d*2^c/a=g at*;generalize d*2^c %a=i at*;generalize d*2^(c+b) %a=h at*;generalize o %2^b=p at*;rw[jf] at j;generalize 2^b=e at*;generalize 2^c=v at*;have l:i*e=a*p+h:=(by have s:(a*g+i)*e=a*o+h:=(by rw[r,j,oO]);rw[<-k,nh,Nat.mul_add] at s;have w:a*g*e=a*(e*g):=(by grind);omega);constructor
 ·intro y;have x:0<i*e:=al7 aa t;by_cases n:h=0
  ·right;intro u;subst u;subst n;simp at l;omega
  exact .inl n
 rintro f q;subst q;simp only[Nat.zero_mul] at l;rcases f with f|f
 ·omega
 have:=al7 m (aa:0<p);omega
def rz (a b c:X) (f:bA) (d e:Z):Z:=k6 f (b*2^a/c) (d-a) (br (b*2^a %c≠0)) e
def EB (h:0<a) (e:0<c) (i:58+aL c<=aL a+j):58<=aL (a*2^j/c):=by
 rcases cS 57 (aL (a*2^j/c)) with b|b
 ·exact b
 exfalso;have d:a*2^j/c<2^57:=gp.1 b;rw[ajR e] at d;have f:=(tV e).2;have g:a*2^j<2^57*2^aL c:=je d (ak5 _ (Nat.le_of_lt f));rw[<-jf,<-gp,oY h] at g;omega
def abg {f:X} (m:0<c) (g:0<j) (l:58+aL j<=aL c+a) (o:a<=f):rz f c j h b e=rz a c j h b e:=by obtain⟨d,rfl⟩:∃d,f=a+d:=⟨f-a,aa⟩;unfold rz;have p:=EB m g l;have i:=PE c j a d g;have n:d+53<aL (c*2^(a+d)/j):=(by have:=wl (c*2^(a+d)/j) d;rw[<-i] at this;omega);rw[ab4 (k:=d) n,<-i,(aa:b-((a+d:X):Z)+d=b-a)];congr 1;rw[<-Bool.decide_or,cu];exact(abi c j a d g).symm
def P4 (a b:X) (c d:Z):Z:=k6 bq (HW (b*2^a)) ((c-a)/2) (br (HW (b*2^a)*HW (b*2^a)≠b*2^a)) d
def m5 (a b:Z):Z:=if a=0 then 0 else k6 (br (a<0)) (cE a).natAbs (eQ a) bq b
def m4 (a b:X):X:=59+aL b-aL a
def vc (a b c:Z):Z:=rz (m4 (cE a).natAbs (cE b).natAbs) (cE a).natAbs (cE b).natAbs (br (a<0)!=br (b<0)) (eQ a-eQ b) c
def abh {oi:Z} (c:b≠0) (d:e≠0) (f:m4 (cE b).natAbs (cE e).natAbs<=a):rz a (cE b).natAbs (cE e).natAbs (br (b<0)!=br (e<0)) (eQ b-eQ e) oi=vc b e oi:=by have g:=jA c;have h:=jA d;refine abg aa aa ?_ f;unfold m4;omega
def P3 (a:X) (b:Z):X:=if(b-((118-aL a:X):Z)) %2=0 then 118-aL a else 118-aL a+1
def Jt (a b:Z):Z:=P4 (P3 (cE a).natAbs (eQ a)) (cE a).natAbs (eQ a) b
theorem eY {b:bm l} (c:a<b.length):al b (a:Z)=Y b[a]:=gQ (bc c)
theorem AU (b:a<9223372036854775808):ay (a:Z)=(a:Z):=cq aa aa
theorem cK {x:Z} (a:-9223372036854775808<=x) (b:x<=9223372036854775807):ay x=x:=cq a b
theorem bk (b:a<9223372036854775807):aP (a:Z)=((a+1:X):Z):=by grind [cq]
theorem fo {x:Z} (a:0<=x) (b:x<18446744073709551616):aJ x=x:=tq a b
theorem la {x:Z} (a:0<=x) (b:x<4294967296):db x=x:=Kg a b
theorem pp (a:Z):db a=a %4294967296:=Kf a
theorem rL (a:Z):aJ a=a %18446744073709551616:=AW a
theorem rn (a:0<=b) (c:b<18446744073709551616):db (ey bC b 4294967295)=b %4294967296:=by rw[and_low32 a c,la aa aa]
theorem bg (a:bm l):ak a=(a.length:Z):=rfl
theorem EV {b:bm l} (e:a<=b.length):((Y (0:X)).bind λc=>(gy (a:Z)).bind λd=>(hb c d b.length).map λ_=>(c,d))=Y (0,a):=by simp_all [aC,u1,qa,c8]
theorem oB (n:aQ d) (o:d.length<=100000000):iD (d,())=Y (iv d,()):=by
 unfold iD;refine bP.1 ?_;refine ae.aK (P:=λk=>∃a:X,k.1=(a:Z)/\a<=d.length/\(∀b,a<=b->(i:b<d.length)->d[b]=0)/\e5 (d.take a)) ?_ ?_
 ·refine ahx (λf=>∃a:X,f.1=(a:Z)/\a<=d.length/\(∀b,a<=b->(i:b<d.length)->d[b]=0)) (λf=>f.1.toNat) ⟨d.length,bn,bd _,λb c e=>by omega⟩ ?_;rintro⟨_,_⟩ ⟨a,rfl,c,e⟩;rcases a with _|a
  ·refine bu.2 ⟨0,bn,c8 _,e,λl j=>by grind⟩
  have ao:ay (((a+1:X):Z)-1)=(a:Z):=(by grind [cK]);have h:br (((a+1:X):Z)>0)=bp:=aH aa;simp only[ao,h,ahM,bG,eY (show a<d.length from c),aC];by_cases g:d[a]=0
  ·rw[gH,aH g];grind [cl,bu]
  rw[gH,aF g];refine bu.2 ⟨a+1,bn,c,e,λl j=>?_⟩;grind
 rintro⟨_,_⟩ ⟨a,rfl,c,e,m⟩;refine ae.of_eq (ah (EV c) rfl) ?_;grind [Q2]
theorem yI (b:d.length<=100000000):uu (d,())=Y (d,()):=by unfold uu;have a:((cG (([]:ahc).length+d.length)).bind λ_=>Y (([]++d:ahc),()))=Y (d,()):=(by grind [eB]);show rv d.length (Y ([],())) ((cG (([]:ahc).length+d.length)).bind λ_=>Y (([]++d:ahc),()))=_;unfold rv;grind
theorem sW:(ak d==0)=br (d=[]):=by simp_all [akW,gH,cu]
theorem wi (c:aQ d) (e:d.length<=100000000):lY (h,d,())=Y (aT (hl (h,d,())),()):=by unfold lY;refine ah (oB c e) ?_;have a:=Mn (neg:=h) (J1 d) (Q1 d);have b:hl (h,iv d,())=hl (h,d,()):=(by grind [J2,hl]);rw[<-b,<-a];simp only[sW,cQ];grind
def Uj (c:b.natAbs<2^(32*a)):(aT b).2.1.length<=a:=by refine q5 ?_;unfold aV;have d:(2^(32*a):X)=4294967296^a:=(by rw[ak6]);rw[d] at c;have:((4294967296^a:X):Z)=4294967296^a:=ac;omega
def Fit (a:Z):Prop:=(aT a).2.1.length<=31250
def Ui (a:X) (c:aL b.natAbs<=32*a):(aT b).2.1.length<=a:=Uj (gp.1 c)
def jO (a:aL b.natAbs<=1000000):Fit b:=Ui 31250 aa
def XL {b:pq} (c:aQ b.2.1) (a:b.2.1.length<=100000000):B2 (b,())=Y (aT (hl b),()):=by obtain⟨e,d,_⟩:=b;unfold B2;exact ah (yI a) (ah (wi c a) rfl)
theorem Ff (a:bA) (b:ahc):hl (!a,b,())=-hl (a,b,()):=by unfold hl;cases a<;>simp
theorem Rf (b:aQ d) (a:bA):hl (bq,d,())=(hl (a,d,())).natAbs:=by have:=e7 b;unfold hl;cases a<;>simp<;>omega
def Ol (e:Fit b):sl (aT b,())=Y (aT (-b),()):=by unfold sl;have a:(aT b).2.1.length<=100000000:=dh e ab;refine ah (yI a) (ah (wi (ms b) a) ?_);have c:=Ff (aT b).1 (aT b).2.1;have d:=oC b;rw[c];show Y (aT (-hl (aT b)),())=_;rw[d]
def Bo (d:Fit b):uj (aT b,())=Y (aT b.natAbs,()):=by unfold uj;have a:(aT b).2.1.length<=100000000:=dh d ab;refine ah (yI a) (ah (wi (ms b) a) ?_);rw[Rf (ms b) (aT b).1];have c:=oC b;show Y (aT ((hl (aT b)).natAbs:Z),())=_;rw[c]
def QZ (c:Fit b):iD ((aT b).2.1,())=Y ((aT b).2.1,()):=by rw[oB (ms b) (dh c ab)];have a:=e5.eq (ms b) (Dl b);show Y (eS (ag (aT b).2.1).toNat,())=_;rw[<-a]
def gA (a:Z):Z:=if a=0 then 0 else if a<0 then-1 else 1
def th {z:Z} (a:Fit z):pV (aT z,())=Y (gA z,()):=by
 unfold pV;refine ah (QZ a) ?_;simp only[sW,cQ,w2];unfold gA;split
 ·rfl
 show(bif br (z<0) then _ else _)=_;rw[cQ];split<;>rfl
theorem ae.steps {h:l->bv (l⊕t)} {g:t->Prop} (f:X) (d:X->l->Prop) {m:l} (o:d 0 m) (q:∀b a,b<f->d b a->ae (h a) (λ|.inl s=>d (b+1) s|.inr c=>g c)) (p:∀a,d f a->ae (h a) (λ|.inl _=>b5|.inr c=>g c)):ae (jm.loop h m) g:=by
 have r:∀e b a,b+e=f->d b a->∃c,j7 h (e+1) a=Y c/\g c:=by
  intro e
  induction e with
  |zero=>
   intro b a n k;obtain rfl:b=f:=n;obtain⟨u,i,j⟩:=p a k;grind [j7]
  |succ e v=>
   intro b a n k;obtain⟨u,i,j⟩:=q b a aa k;grind [j7]
 obtain⟨c,i,j⟩:=r f 0 m aa o;exact⟨c,xq.2 ⟨_,i⟩,j⟩
theorem x1 (b:ahc) (a:X):ag (b.take (a+1))=ag (b.take a)+aV a*b.getD a 0:=by grind [ck,aiT,iw,bR,cl]
theorem aQ.getD {a:ahc} (d:aQ a) (c:X):0<=a.getD c 0/\a.getD c 0<4294967296:=by
 rcases cS c a.length with b|b
 ·rw[mi,bc b];exact d.get b
 grind
theorem jv (b:a<d.length):d.getD a 0=d[a]:=by grind
theorem o7 (b:d.length<=a):d.getD a 0=0:=by grind
theorem Pw (r:aQ d) (s:aQ f) (y:d.length<=10000000) (z:f.length<=10000000):wG (d,f,())=Y (eS (ag d+ag f).toNat,()):=by
 unfold wG;refine bP.1 ?_;refine ae.aK (P:=λh=>∃i p,h=(i,p,())/\aQ i/\aQ p/\i.length<=10000000/\p.length<=i.length/\ag i+ag p=ag d+ag f) ?_ ?_
 ·simp only[cQ];refine ae.ite (λj=>bu.2 ⟨f,d,bn,s,r,z,?_,aj5 _ _⟩) λj=>bu.2 ⟨d,f,bn,r,s,y,?_,bn⟩
  ·grind
  grind
 rintro _ ⟨c,m,rfl,B,C,I,F,w⟩;rw[<-w];clear w r s y z;dsimp only;have A:aP (ak c)=((c.length+1:X):Z):=bk aa;have ao:fX 0 ((c.length+1:X):Z)=Y 0:=(by unfold fX;rw[b9 ⟨aa,aa,by have:hD=4294967296:=rfl;omega⟩];rfl);rw[A,ao];refine ae.aK (P:=λh=>∃b a,h=(b,a,())/\a.length=c.length/\aQ a/\0<=b/\b<=1/\ag a+aV c.length*b=ag c+ag m) ?_ ?_
 ·refine ae.steps c.length (λe D=>∃b a,D=(b,(e:Z),a,())/\a.length=e/\aQ a/\0<=b/\b<=1/\ag a+aV e*b=ag (c.take e)+ag (m.take e)) ⟨0,[],bn,bn,aQ.nil,aa,aa,by simp[ag]⟩ ?_ ?_
  ·rintro e _ t ⟨b,a,rfl,n,k,l,q,v⟩;have G:=B.get t;have H:=C.getD e;have o:∃g,g=c[e]+b+m.getD e 0/\0<=g/\g<18446744073709551616/\g/4294967296<=1:=⟨_,bn,aa,aa,aa⟩;obtain⟨g,o,J,K,E⟩:=o;have u:br ((e:Z)<ak c)=bp:=aH (by grind);simp only[u,bG,eY t,aC];refine ae.aK (P:=λh=>h=(g/4294967296,a++[g %4294967296],())) ?_ ?_
   ·refine ae.aK (P:=λh=>h=(g,a,())) ?_ ?_
    ·simp only[cQ];refine ae.ite (λj=>?_) λj=>?_
     ·grind [fo,bu,jv,eY,bg]
     have j:m.length<=e:=(by grind);rw[o7 j] at o;refine bu.2 ?_;rw[fo (x:=c[e]) aa aa,fo (x:=c[e]+b) aa aa,o,ajj]
    grind [eB,rn,m7,bu]
   rintro _ rfl;dsimp only;refine bu.2 ⟨g/4294967296,a++[g %4294967296],by rw[bk aa],by grind,k.snoc aa aa,aa,E,?_⟩;rw[qq,n,hZ,iw t,x1];grind
  rintro _ ⟨b,a,rfl,n,k,l,q,v⟩;have u:br ((c.length:Z)<ak c)=bq:=aF (by grind);simp only[u,bO];refine bu.2 ⟨b,a,bn,n,k,l,q,?_⟩;simp_all [fK,bd]
 rintro _ ⟨b,a,rfl,n,k,l,q,v⟩;dsimp only;rw[eB (by grind),la l aa];refine ae.of_eq (ah bn (ah (oB (k.snoc l aa) (by grind)) rfl)) ?_;grind [qq,iv]
def iP (b:ahc) (c:X):Prop:=∀a,c<=a->(d:a<b.length)->b[a]=0
def iP.lL (b a:X):iP (bJ b (0:Z)) a:=λd _ c=>by simp
def iP.set {b:ahc} {a:X} (c:iP b a) (e:Z):iP (b.set a e) (a+1):=λd f g=>by rw[yl aa];exact c d aa _
def iP.JG {j:X} (b:iP d a) (f:Z) (g:j<a):iP (d.set j f) a:=λe c h=>by rw[yl aa];exact b e c _
theorem N2 (q:aQ d) (r:aQ f) (C:d.length<=10000000) (y:f.length<=d.length) (z:ag f<=ag d):wF (d,f,())=Y (eS (ag d-ag f).toNat,()):=by
 unfold wF;refine bP.1 ?_;simp only[bg,ij (aa:d.length<=4294967296),aC];refine ae.aK (P:=λh=>∃a b,h=(a,())/\a.length=d.length/\aQ a/\0<=b/\b<=1/\ag a-aV d.length*b=ag d-ag f) ?_ ?_
 ·refine ae.steps d.length (λc t=>∃b a,t=(b,(c:Z),a,())/\a.length=d.length/\aQ a/\iP a c/\0<=b/\b<=1/\ag a-aV c*b=ag (d.take c)-ag (f.take c)) ⟨0,_,bn,ac,aQ.lL _,iP.lL _ _,aa,aa,by simp[ag,po]⟩ ?_ ?_
  ·rintro c _ l ⟨b,a,rfl,i,g,n,j,k,o⟩;have A:=q.get l;have B:=r.getD c;obtain⟨e,x,u,v⟩:∃e,e=d[c]-b-f.getD c 0/\-4294967296<=e/\e<4294967296:=⟨_,bn,aa,aa⟩;have m:br ((c:Z)<(d.length:Z))=bp:=aH aa;simp only[bg,m,bG,eY l,aC];refine ae.aK (P:=λh=>h=(-(e/4294967296),a.set c (e %4294967296),())) ?_ ?_
   ·refine ae.aK (P:=λh=>h=(e %18446744073709551616,a,())) ?_ ?_
    ·simp_all [o7,bu,rL,eY,jv,ae.ite,cQ]
    rintro _ rfl;dsimp only;rw[rn aa aa,lI aa,m7];refine bu.2 ?_;rw[r7 1 aa aa 1 ab ab];grind
   rintro _ rfl;dsimp only;refine bu.2 ⟨-(e/4294967296),a.set c (e %4294967296),by rw[bk aa],by grind,g.set aa aa,n.set _,aa,aa,?_⟩;rw[mL aa,n c (cc _) aa,hZ,iw l,x1];grind
  rintro _ ⟨b,a,rfl,i,g,n,j,k,o⟩;have m:br ((d.length:Z)<(d.length:Z))=bq:=aF aa;simp only[bg,m,bO];refine bu.2 ⟨a,b,bn,i,g,j,k,?_⟩;simp_all [fK,bd]
 rintro _ ⟨a,b,rfl,i,g,j,k,o⟩;dsimp only;have p:=g5 g;have w:=fQ d.length;rw[i] at p;have s:b=0:=(by grind);subst s;refine ae.of_eq (ah (oB g aa) rfl) ?_;grind [iv]
def fE (a b:Z):Z:=if a<b then-1 else if b<a then 1 else 0
theorem BF (a b:Z):uf (a,b,())=Y (fE a b,()):=by grind [uf,si,fE]
theorem TF (a b:Z):BH (a,b,())=Y (fE a b,()):=by grind [BH,BJ,fE]
theorem Fg (e:aQ d) (g:aQ f) (h:a<d.length) (i:a<f.length) (b:ag (d.drop (a+1))=ag (f.drop (a+1))) (l:d[a]<f[a]):ag d<ag f:=by rw[oD d a aa,oD f a aa,mK h,mK i,b];have c:=g5 (e.take a);have j:=e7 (g.take a);rw[gh,h1 aa] at c;have k:aV a*(d[a]+1)<=aV a*f[a]:=jW aa (fr (fQ a));grind
theorem qp (a:aQ f) (b:aQ d) (c:e5 d) (e:f.length<d.length):ag f<ag d:=by have g:=g5 a;have h:=e5.low b c (by grind);have i:=pf (m:=f.length) (n:=d.length-1) aa;omega
theorem Gf (g:aQ d) (h:aQ f) (q:e5 d) (r:e5 f) (u:d.length<=10000000) (v:f.length<=10000000):wE (d,f,())=Y (fE (ag d) (ag f),()):=by
 unfold wE;refine bP.1 ?_;simp only[gb,bg];by_cases m:d.length=f.length
 ·rw[aH (aa:(d.length:Z)=f.length)];simp only[gT,bO];refine ae.aK (P:=λn=>match n with|.inl _=>ag d=ag f|.inr o=>o=(fE (ag d) (ag f),())) ?_ ?_
  ·refine ae.steps d.length (λc p=>p=(((d.length:X):Z)-1-c,())/\ag (d.drop (d.length-c))=ag (f.drop (d.length-c))) ⟨?_,?_⟩ ?_ ?_
   ·grind [cK]
   ·rw[nX aa,nX aa]
   ·rintro c _ s ⟨rfl,e⟩;obtain⟨a,t⟩:∃a,d.length=a+1+c:=⟨d.length-1-c,aa⟩;have ao:((d.length:X):Z)-1-(c:Z)=(a:Z):=aa;have j:a<d.length:=aa;have k:a<f.length:=aa;rw[(aa:d.length-c=a+1)] at e;simp only[ao,aH (aa:(a:Z)>=0),bG,eY j,eY k,aC,TF];by_cases i:d[a]=f[a]
    ·simp only[aH i,gT,bO];grind [mK,cK,bu]
    simp only[aF i,me,bG];refine bu.2 ?_;show(fE d[a] f[a],())=_;have l:fE d[a] f[a]=fE (ag d) (ag f):=by
     unfold fE;rcases Int.lt_or_gt_of_ne i with b|b
     ·rw[au b,au (Fg g h j k e b)]
     have:=Fg h g k j e.symm b;omega
    rw[l]
   rintro _ ⟨rfl,e⟩;have ao:¬(((d.length:X):Z)-1-(d.length:Z)>=0):=aa;simp_all [bu,aF,bO]
  grind [bu,fE,ag]
 rw[aF (aa:¬(d.length:Z)=f.length)];simp only[me,bG,BF,aC];refine bu.2 ?_;congr 1;unfold fE;rcases Nat.lt_or_gt_of_ne m with b|b
 ·rw[au aa,au (qp g h r b)]
 have:=qp h g q b;omega
def Ab {x y:Z} (b:0<=x/\x<4294967296) (a:0<=y/\y<4294967296):0<=x*y/\x*y<=18446744065119617025:=by refine⟨nc b.1 a.1,?_⟩;have c:x*y<=4294967295*y:=nb aa a.1;omega
theorem acb (x:0<=b/\b<4294967296) (w:aQ d) (K:a+d.length<c) (I:c<=100000000) (u:f.length=c) (v:aQ f) (z:iP f (a+d.length)) {p:iO->Prop} (J:∀h e,e.length=c->aQ e->iP e (a+d.length)->0<=h->h<4294967296->ag e+aV (a+d.length)*h=ag f+aV a*(b*ag d)->p (h,e,())):ae (loop (σ:=pL) (ρ:=iO) (λ(k,j,m,_)=>
 bif br (j<ak d) then
 (al d j).bind λr=>
 rd m (ay ((a:Z)+j)) λs=>
 wr m (ay ((a:Z)+j)) (db (ey bC (aJ (aJ (aJ (aJ b*aJ r)+aJ s)+k)) 4294967295)) λH=>
 (eM bC (aJ (aJ (aJ (aJ b*aJ r)+aJ s)+k)) 32).bind λG=>
 Y (.inl (G,aP j,H,())) else
 Y (.inr (k,m,()))) (0,0,f,())) p:=by
 refine ae.steps d.length (λg D=>∃h e,D=(h,(g:Z),e,())/\e.length=c/\aQ e/\iP e (a+d.length)/\0<=h/\h<4294967296/\ag e+aV (a+g)*h=ag f+aV a*(b*ag (d.take g))) ⟨0,f,bn,u,v,z,aa,aa,by simp[ag]⟩ ?_ ?_
 ·rintro g _ l ⟨h,e,rfl,ax,o,q,A,B,C⟩;have y:=w.get l;have M:=o.get (n:=a+g) aa;have L:=Ab x y;obtain⟨i,N,E,F⟩:∃i,i=b*d[g]+e[a+g]+h/\0<=i/\i<18446744073709551616:=⟨_,bn,aa,aa⟩;simp only[aH (show(g:Z)<ak d by grind),bG,eY l,aC];have ao:ay ((a:Z)+(g:Z))=((a+g:X):Z):=(by grind [cK]);rw[ao,lE aa];have t:aJ (aJ (aJ (aJ b*aJ d[g])+aJ e[a+g])+h)=i:=by
   grind [fo]
  rw[t,rn E F,lI aa,m7];refine bu.2 ⟨i/4294967296,e.set (a+g) (i %4294967296),by rw[bk aa],by grind,o.set aa aa,q.JG _ aa,aa,aa,?_⟩;rw[mL aa,(aa:a+(g+1)=(a+g)+1),hZ,iw l];grind [tw,aiy]
 rintro _ ⟨h,e,rfl,ax,o,q,A,B,C⟩;simp_all [fK,bd,bu,aF,bg,bO,ak]
theorem adn (v:aQ f) (w:aQ d) (z:f.length<=10000000) (A:d.length<=10000000):B6 (f,d,())=Y (eS (ag f*ag d).toNat,()):=by
 unfold B6;refine bP.1 ?_;simp only[sW];refine ae.aK (P:=λp=>match p with|.inl _=>f≠[]/\d≠[]|.inr h=>h=(eS (ag f*ag d).toNat,())) ?_ ?_
 ·by_cases l:f=[]
  ·simp only[aH l];refine bu.2 ?_;subst l;simp[ag];rfl
  simp only[aF l,ahM,bG];by_cases r:d=[]
  ·simp only[aH r,bG];refine bu.2 ?_;subst r;simp[ag];rfl
  simp_all [aF,bO,bu]
 rintro(p|p) x
 rotate_left
 ·grind [bu]
 clear x;dsimp only;have u:ay (ak f+ak d)=((f.length+d.length:X):Z):=(by grind [cK,bg]);rw[u,ij aa,bN];refine ae.aK (P:=λh=>∃a,h=(a,())/\a.length=f.length+d.length/\aQ a/\ag a=ag f*ag d) ?_ ?_
 ·refine ae.steps f.length (λb y=>∃a,y=((b:Z),a,())/\a.length=f.length+d.length/\aQ a/\iP a (b+d.length)/\ag a=ag (f.take b)*ag d) ⟨_,bn,ac,aQ.lL _,iP.lL _ _,by simp[ag,po]⟩ ?_ ?_
  ·rintro b _ m ⟨a,rfl,ax,g,q,t⟩;simp only[aH (show(b:Z)<ak f by grind),bG,eY m,bN];refine ae.aK (P:=λh=>∃e c,h=(e,c,())/\c.length=f.length+d.length/\aQ c/\iP c (b+d.length)/\0<=e/\e<4294967296/\ag c+aV (b+d.length)*e=ag a+aV b*(f[b]*ag d)) (acb (v.get m) w aa aa ax g q λe c s n i j k o=>⟨e,c,bn,s,n,i,j,k,o⟩) ?_;rintro _ ⟨e,c,rfl,s,n,i,j,k,o⟩;have ao:ay ((b:Z)+ak d)=((b+d.length:X):Z):=(by grind [cK,bg]);dsimp only;rw[ao,la j k,lI aa];refine bu.2 ⟨c.set (b+d.length) e,by rw[bk aa],by grind,n.set j k,?_,?_⟩
   ·rw[(aa:b+1+d.length=b+d.length+1)];exact i.set _
   rw[mL aa,i _ (bd _) aa,iw m,aj6,o,t];grind
  rintro _ ⟨a,rfl,ax,g,q,t⟩;simp only[aF (show¬((f.length:Z)<ak f) by grind),bO];refine bu.2 ⟨a,bn,ax,g,?_⟩;grind
 rintro _ ⟨a,rfl,ax,g,q⟩;refine ae.of_eq (ah (oB g (by grind)) rfl) ?_;grind [iv]
theorem WF:∀a:X,a<256->qo DU (a:Z)=Y (aL a:Z):=by have b:(bH 256).all (λa=>qo DU (a:Z)==Y (aL a:Z))=bp:=(by decide+kernel);grind
theorem JH {x y:Z} (a:0<=y) (b:y<=32):eM .u32 x y=Y (x/2^y.toNat):=by unfold eM;rw[au a,show cb.bits=32 from rfl,h1 aa,al2 _ (by grind)]
def Qv (a:0<=b) (c:b<=32):h6 .u32 e b=Y ((e*2^b.toNat) %4294967296):=by unfold h6;rw[au a,Kf,show cb.bits=32 from rfl,h1 aa]
def ad4 (a:0<=b) (c:b<256):akZ.wrap b=b:=by unfold aiU;refine(aw (ac:¬(bq&&br (b %256>=(128:Z)))=bp)).trans ?_;show b %256=b;omega
def Lq {n k:X} (a:2^k<=n):aL n=aL (n/2^k)+k:=by rw[wl];have:=qQ.2 a;omega
theorem H7 {n:X} (g:n<4294967296):wK ((n:Z),())=Y ((aL n:Z),()):=by
 unfold wK;refine bP.1 ?_;refine ae.aK (P:=λd=>∃a b:X,d=((a:Z),(b:Z),())/\a<65536/\aL n=aL a+b/\b<=16) ?_ ?_
 ·simp only[cQ];refine ae.ite (λe=>?_) λe=>?_
  ·rw[JH ab ab];refine bu.2 ⟨n/2^16,16,?_,aa,Lq aa,aa⟩;simp
  exact bu.2 ⟨n,0,bn,aa,bn,aa⟩
 rintro _ ⟨a,b,rfl,e,h,i⟩;refine ae.aK (P:=λd=>∃a b:X,d=((a:Z),(b:Z),())/\a<256/\aL n=aL a+b/\b<=24) ?_ ?_
 ·simp only[cQ];refine ae.ite (λc=>?_) λc=>?_
  ·rw[JH ab ab];refine bu.2 ⟨a/2^8,b+8,?_,aa,by have:=Lq (n:=a) (k:=8) aa;omega,aa⟩;grind [cq]
  grind [bu]
 rintro _ ⟨f,o,rfl,c,j,l⟩;dsimp only;rw[ad4 aa aa,WF f c];refine bu.2 ?_;have m:aL f<=8:=gp.2 aa;grind [cq]
theorem S3 {l:ahc} {x:Z} (g:aQ l) (p:0<x):aL (ag l+aV l.length*x).toNat=32*l.length+aL x.toNat:=by
 obtain⟨b,rfl⟩:=gg (fr p);obtain⟨d,o⟩:=gg (e7 g);have f:=g5 g;rw[o] at f|-;have n:aV l.length=((2^(32*l.length):X):Z):=(by simp_all [ak6,aV]);rw[n] at f|-;generalize 32*l.length=a at*;have h:0<b:=aa;have j:((d:Z)+((2^a:X):Z)*(b:Z)).toNat=d+2^a*b:=aa;show aL ((d:Z)+((2^a:X):Z)*(b:Z)).toNat=_;rw[j];obtain⟨e,i⟩:=tV h;have q:=pQ h;obtain⟨c,m⟩:∃c,aL b=c+1:=⟨aL b-1,aa⟩;show _=a+aL b;rw[m] at e i|-;have r:d<2^a:=aa;refine Lp (k:=a+c) ?_ ?_
 ·rw[jf];have:=ak5 (2^a) e;grind
 rw[tM,jf] at*;have:=ak5 (2^a) (aa:b+1<=2^c*2);grind
theorem NE (c:aQ d) (h:e5 d) (k:d.length<=10000000):y3 (d,())=Y ((aL (ag d).toNat:Z),()):=by
 unfold y3;simp only[sW,cQ];split
 ·rename_i a;subst a;rfl
 rename_i a;have m:0<d.length:=ym.2 a;have ao:ay (ak d-1)=((d.length-1:X):Z):=(by grind [cK,bg]);rw[ao,eY aa];have e:=c.get (n:=d.length-1) aa;have i:d[d.length-1]≠0:=h _ (by rw[al8,bc aa]);have f:ag d=ag (d.take (d.length-1))+aV (d.length-1)*d[d.length-1]:=(by grind [iw,ck]);have b:=S3 (l:=d.take (d.length-1)) (x:=d[d.length-1]) (c.take _) aa;rw[gh,h1 aa,<-f] at b;rw[b];obtain⟨n,g⟩:=gg e.1;rw[g] at e|-;refine ah bn (ah (H7 (n:=n) aa) ?_);have j:aL n<=32:=gp.2 aa;grind [cK]
def wk (a:Fit b):sk (aT b,())=Y ((aL b.natAbs:Z),()):=by unfold sk;refine ah (QZ a) (ah (NE (ms b) (Dl b) (dh a ab)) ?_);rw[iq];rfl
theorem WR (q:c=(2*j+1)*2^a) (m:c<2^32):c&&&(2^32-c)=2^a:=by
 have p:=jG a;have n:0<c:=(by grind);obtain⟨e,g⟩:∃e,c=e+1:=⟨c-1,aa⟩;have l:e=2^a*(2*j)+(2^a-1):=(by grind);have r:c=2^a*(2*j+1)+0:=(by grind);refine al9 λb=>?_;rw[ama,g,Nat.testBit_two_pow_sub_succ aa,<-g];have ao:c.testBit b=if b<a then bq else(2*j+1).testBit (b-a):=by grind
 have i:e.testBit b=if b<a then(2^a-1).testBit b else(2*j).testBit (b-a):=by rw[l,Nat.testBit_two_pow_mul_add _ aa]
 rw[ao,i,akT];by_cases f:b<a
 ·grind
 rw[aw f,aw f];by_cases k:a=b
 ·subst k;have d:a<32:=by
   rcases cS a 32 with d|d
   ·exact d
   have:=tL (ab:1<=2) d;omega
  grind
 obtain⟨h,o⟩:∃h,b-a=h+1:=⟨b-a-1,aa⟩;grind
theorem Ta:∀a:X,a<32->al pR (2^a*125613361 %4294967296/2^(27:Z).toNat)=Y (a:Z):=by have b:(bH 32).all (λa=>al pR (2^a*125613361 %4294967296/2^(27:Z).toNat)==Y (a:Z))=bp:=(by decide+kernel);grind
theorem Q8 (e:0<a) (c:a<4294967296) (b:Z):db (ey cb (a:Z) (db (0-(a:Z)))*b)=2^cN a*b %4294967296:=by obtain⟨g,f⟩:=tm e;have ao:db (0-(a:Z))=((2^32-a:X):Z):=(by grind [pp]);have d:((2^cN a:X):Z)=2^cN a:=ac;rw[ao,KZ c aa,WR f c,pp,d]
theorem Q9 {n:X} (b:0<n) (a:n<4294967296):wL ((n:Z),())=Y ((cN n:Z),()):=by have e:cN n<32:=je (rI b) (gp.2 a);have d:=Ta _ e;have c:=JH (x:=db (ey cb (n:Z) (db (0-(n:Z)))*125613361)) (y:=27) ab ab;rw[Q8 b a 125613361] at c;unfold wL;show(bif (n:Z)==0 then Y (32,()) else(eM cb (db (ey cb (n:Z) (db (0-(n:Z)))*125613361)) 27).bind λf=>(al pR f).bind λg=>Y (ay g,()))=_;rw[a1 (by grind),Q8 b a 125613361,c];refine ah bn (ah d ?_);grind [cK]
theorem Ra {x:Z} (r:ag (d.take c)=0) (g:c<d.length) (h:aQ d) (s:d[c]≠0):cN (ag d).toNat=32*c+cN (d[c]).toNat:=by
 have q:=h.get g;rw[oD d c aa,r,mK g];have p:=e7 (h.drop (c+1));generalize ag (d.drop (c+1))=u at*;generalize d[c]=v at*;obtain⟨b,rfl⟩:=gg q.1;obtain⟨e,rfl⟩:=gg p;have i:0<b:=aa;obtain⟨j,m⟩:=tm i;have t:cN b<32:=je (rI i) (gp.2 aa);have o:aV c=((2^(32*c):X):Z):=(by unfold aV;rw[ak6];simp);have k:(0+aV c*((b:Z)+4294967296*(e:Z))).toNat=(b+4294967296*e)*2^(32*c):=(by rw[o,aiz,qF (b+4294967296*e)];have:((2^(32*c):X):Z)*((b:Z)+4294967296*(e:Z))=((2^(32*c)*(b+4294967296*e):X):Z):=(by rw[yh];simp);rw[this];rfl);show cN (0+aV c*((b:Z)+4294967296*(e:Z))).toNat=32*c+cN b;rw[k,E8 aa,ai6];congr 1;obtain⟨f,n⟩:∃f,32=cN b+(f+1):=⟨31-cN b,aa⟩;refine x0 (a:=j+2^f*e) ?_;have l:(4294967296:X)=2^cN b*(2^f*2):=by
  have:(4294967296:X)=2^32:=rfl;rw[this]
  conv=>lhs;rw[n]
  rw[jf,tM]
 rw[l]
 conv=>lhs;lhs;rw[m]
 grind
def Rb {z:Z} (o:Fit z) (r:z≠0):y0 (aT z,())=Y ((cN z.natAbs:Z),()):=by
 unfold y0;dsimp only;have i:=ms z;have u:=iq z;have s:(aT z).2.1.length<=31250:=o;generalize(aT z).2.1=b at*;have m:z.natAbs=(ag b).toNat:=aa;rw[m];refine bP.1 (ae.aK (P:=λh=>match h with|.inl _=>b5|.inr p=>p=((cN (ag b).toNat:Z),())) ?_ ?_)
 ·refine ae.steps b.length (λa q=>q=((a:Z),())/\ag (b.take a)=0) ⟨bn,bn⟩ ?_ ?_
  ·rintro a _ f ⟨rfl,e⟩;have j:=i.get f;simp only[aH (show(a:Z)<ak b by simp only[bg];omega),bG,eY f,aC,gb];by_cases c:b[a]=0
   ·simp only[aH c,gT,bO];refine bu.2 ⟨by rw[bk aa],?_⟩;rw[iw f,c,e];simp
   simp only[aF c,me,bG];have k:=Ra (x:=0) e f i c;rw[k];obtain⟨d,l⟩:=gg j.1;rw[l] at j c|-;have t:cN d<32:=je (rI aa) (gp.2 aa);refine ae.of_eq (ah (Q9 (n:=d) aa aa) rfl) ?_;show(ay (ay ((a:Z)*32)+(cN d:Z)),())=_;rw[cK (x:=(a:Z)*32) aa aa,cK aa aa];congr 1;show _=((32*a+cN d:X):Z);omega
  rintro _ ⟨rfl,e⟩;exfalso;rw[fK (bd _)] at e;omega
 rintro(h|h) g
 ·exact g.elim
 have g:h=_:=g;rw[g];exact bu.2 bn
theorem xL (a:X):((2^a:X):Z)=(2:Z)^a:=by simp
theorem jT (a:X):(0:Z)<2^a:=mg ab
theorem vb (b:a<=31):(2:Z)^a<=2147483648:=by have c:=tL (ab:0<2) b;grind
def va {p:X} (a:p<=32):(4294967296:Z)=2^p*2^(32-p):=by rw[<-lP,(aa:p+(32-p)=32)];rfl
theorem qt (a:X):aV a=2^(32*a):=by unfold aV;rw[Int.pow_mul];rfl
theorem aaz {k:X} {x y:Z} (j:k<=32) (e:0<=x) (f:x<2^k) (g:0<=y) (o:y<4294967296) (i:y %2^k=0):fN .u32 x y=x+y/\x+y<4294967296:=by
 have c:=jT k;have u:=va j;have t:=jT (32-k);have s:y=2^k*(y/2^k):=(by have:=lO y (2^k);omega);have r:y/2^k<2^(32-k):=by
  rcases i7 (y/2^k) (2^(32-k)) with b|b
  ·exact b
  have:=jW b (fr c);omega
 have q:2^k*(y/2^k+1)<=2^k*2^(32-k):=jW aa (fr c);have p:(2:Z)^k*(y/2^k+1)=2^k*(y/2^k)+2^k:=(by grind);have n:x+y<4294967296:=aa;refine⟨?_,n⟩;obtain⟨d,rfl⟩:=gg e;obtain⟨a,rfl⟩:=gg g;have m:d<2^k:=(by have:((d:X):Z)<((2^k:X):Z):=(by simpa using f);omega);have l:a %2^k=0:=(by have:((a %2^k:X):Z)=0:=(by simpa using i);omega);rw[aax aa aa];have h:a=(a/2^k)*2^k:=(by have:=r0 a (2^k);rw[l,qF] at this;omega);rw[h,K3 k m];simp
theorem J7 {n:X} (F:aQ d) (am:d.length<=10000000) (V:n<=100000000):wH (d,(n:Z),())=Y (eS (ag d*2^n).toNat,()):=by
 unfold wH;simp only[sW,cQ];split
 ·rename_i h;subst h;simp[ag];rfl
 refine bP.1 ?_;obtain⟨a,e,K,ad,I,J⟩:∃a e:X,n=32*a+e/\e<32/\km bK (n:Z) 32=some (a:Z)/\i4 (n:Z) 32=some (e:Z):=by
  refine⟨n/32,n %32,aa,aa,?_,?_⟩
  ·unfold km;rw[au ab,Fp aa,cq aa aa];simp
  unfold i4;rw[au ab,Fq aa];simp
 have l:=jT e;have E:=va (p:=e) aa;have w:aP (ay ((a:Z)+ak d))=((a+d.length+1:X):Z):=(by simp only[bg];rw[cK aa aa,(ac:(a:Z)+(d.length:Z)=((a+d.length:X):Z)),bk aa]);rw[I,J,aC,aC,w,ij aa,aC];refine ae.aK (P:=λq=>∃c,q=(c,())/\c.length=a+d.length+1/\aQ c/\ag c=aV a*(2^e*ag d)) ?_ ?_
 ·refine ae.steps d.length (λb M=>∃c,M=((b:Z),c,())/\c.length=a+d.length+1/\aQ c/\iP c (a+b+1)/\(∀h:a+b<c.length,c[a+b]<2^e)/\ag c=aV a*(2^e*ag (d.take b))) ⟨_,bn,ac,aQ.lL _,iP.lL _ _,λh=>by simp;exact l,by simp[ag,po]⟩ ?_ ?_
  ·rintro b _ m ⟨c,rfl,ax,g,i,t,o⟩;have s:=F.get m;have G:=g.get (n:=a+b) aa;have H:=t aa;dsimp only;rw[b9 (show(b:Z)<ak d by simp only[bg];omega),eY m,bN];have ao:ay ((a:Z)+(b:Z))=((a+b:X):Z):=(by rw[cK aa aa];simp);have U:d[b]*2^e<4294967296*2^e:=aj7 s.2 l;have T:(2:Z)^e<=2147483648:=vb aa;obtain⟨f,r,N,O⟩:∃f,f=d[b]*2^e/\0<=f/\f<18446744073709551616:=⟨_,bn,aj4 s.1 (ahy l),aa⟩;have z:h6 bC (aJ d[b]) (aJ (e:Z))=Y f:=by
    rw[fo (x:=d[b]) aa aa,fo (x:=(e:Z)) aa aa,nR aa aa,fA,<-r];congr 1;omega
   have A:f %4294967296 %2^e=0:=(by rw[amb _ ⟨_,E⟩,r,aj8]);have B:f/4294967296<2^e:=(by refine rQ ab ?_;rw[kR];omega);obtain⟨C,R⟩:=aaz (k:=e) (x:=c[a+b]) (y:=f %4294967296) aa G.1 H aa aa A;rw[z];simp only[aC];rw[ao,lE aa,rn N O,C,lI aa,m7,aC,bk aa,la aa aa,lI (by simp;omega)];refine bu.2 ⟨(c.set (a+b) (c[a+b]+f %4294967296)).set (a+b+1) (f/4294967296),by rw[bk aa],by simp[ax],(g.set aa aa).set aa aa,?_,?_,?_⟩
   ·have:=(i.JG (c[a+b]+f %4294967296) (j:=a+b) aa).set (f/4294967296);exact this
   ·intro h;show((c.set (a+b) (c[a+b]+f %4294967296)).set (a+b+1) (f/4294967296))[a+b+1]'h<2^e
    rw[amc];exact B
   have Q:(c.set (a+b) (c[a+b]+f %4294967296))[a+b+1]'(by simp;omega)=0:=by rw[yl aa];exact i _ aa aa
   rw[mL (by simp;omega),Q,mL aa,o,iw m,hZ,tw];have S:=lO f 4294967296;generalize f/4294967296=L at*;generalize f %4294967296=q at*;generalize(2:Z)^e=u at*;generalize d[b]=v at*;generalize c[a+b]=an at*;have D:q=v*u-4294967296*L:=aa;subst D;grind
  rintro _ ⟨c,rfl,ax,g,i,t,o⟩;dsimp only;rw[cf (show¬((d.length:Z)<ak d) by simp only[bg];omega)];refine bu.2 ⟨c,bn,ax,g,?_⟩;rw[o,ck (cc _)]
 rintro _ ⟨c,rfl,ax,g,i⟩;refine ae.of_eq (ah (oB g (by show c.length<=_;omega)) rfl) ?_;show(iv c,())=_;rw[iv,i,qt,K,lP];congr 3;grind
def TK (k:aQ d) (o:d.length<=10000000):za (d,(),())=Y (br (ag d≠0),()):=by
 unfold za;refine bP.1 ?_;refine ae.aK (P:=λi=>∃g,i=(g,())/\(0<=g↔ag d≠0)) ?_ ?_
 ·unfold Gx;dsimp only;refine ae.aK (P:=λc=>match c with|.inl _=>ag d=0|.inr i=>0<=i.1/\ag d≠0) ?_ ?_
  ·refine ae.steps d.length (λa m=>m=((a:Z),())/\ag (d.take a)=0) ⟨bn,bn⟩ ?_ ?_
   ·rintro a _ e ⟨rfl,b⟩;have l:=k.get e;simp only[aH (show(a:Z)<ak d by simp only[bg];omega),bG,eY e,aC,Gk,gb];by_cases h:d[a]=0
    ·simp only[aH h,gT,bO];refine bu.2 ⟨by rw[bk aa],?_⟩;rw[iw e,h,b];simp
    simp only[aF h,me,bG];refine bu.2 ⟨by show(0:Z)<=(a:Z);omega,?_⟩;rw[oD d a aa,b,mK e];have j:=e7 (k.drop (a+1));have n:0<aV a*(d[a]+4294967296*ag (d.drop (a+1))):=rT (fQ a) aa;omega
   rintro _ ⟨rfl,b⟩;simp only[aF (show¬((d.length:Z)<ak d) by simp only[bg];omega),bO];refine bu.2 ?_;rw[fK (bd _)] at b;exact b
  rintro(c|c) f
  ·have f:ag d=0:=f;exact bu.2 ⟨_,bn,by rw[f];simp⟩
  obtain⟨b,j⟩:0<=c.1/\ag d≠0:=f;exact bu.2 ⟨c.1,bn,λ_=>j,λ_=>b⟩
 rintro _ ⟨g,rfl,l⟩;refine bu.2 ?_;show(br (g>=0),())=_;congr 1;rw[cu];exact l
def K1 (a:X) (c:0<=b) (g:b<4294967296) (e:a<=32):ey .u32 b (2^a-1)=b %2^a:=by obtain⟨i,rfl⟩:=gg c;have f:0<2^a:=jG a;have d:(2:Z)^a-1=((2^a-1:X):Z):=(by rw[Int.natCast_sub f];simp);have h:2^a<=2^32:=tL ab e;rw[d,KZ aa aa,ak2];simp
def NP {x b y:Z} {P P':Z} (e:0<b) (f:0<=x/\x<b) (h:0<P):(x+b*y) %(b*P)=0↔x=0/\y %P=0:=by
 constructor
 ·intro a;have g:x=0:=by
   have c:(x+b*y) %b=0:=(by have:=amb (x+b*y) (show b∣b*P from⟨P,bn⟩);rw[a] at this;simpa using this.symm);rw[yg,rR f.1 f.2] at c;exact c
  subst g;rw[aiz,amd _ _ e] at a;exact⟨bn,by rcases aj9.1 a with d|d;omega;exact d⟩
 rintro⟨rfl,a⟩;rw[aiz,amd _ _ e,a,aka]
theorem Ma {n:X} (i:aQ d) (bx:e5 d) (dl:d.length<=10000000) (cv:n<=1000000000):y2 (d,(n:Z),())=Y (eS (ag d/2^n).toNat,br (ag d %2^n≠0),()):=by
 unfold y2;dsimp only;refine bP.1 ?_;obtain⟨a,e,a4,c1,av,a3⟩:∃a e:X,n=32*a+e/\e<32/\km bK (n:Z) 32=some (a:Z)/\i4 (n:Z) 32=some (e:Z):=by
  refine⟨n/32,n %32,aa,aa,?_,?_⟩
  ·unfold km;rw[au ab,Fp aa,cq aa aa];simp
  unfold i4;rw[au ab,Fq aa];simp
 have B:=jT e;have G:=va (p:=e) aa;have ad:(2:Z)^n=aV a*2^e:=(by rw[qt,a4,lP]);have K:=e7 i;rw[av,a3,aC,aC,cQ,ad];refine ae.ite (λk=>?_) λk=>?_
 ·have k:d.length<=a:=(by simp only[bg] at k;omega);have m:=g5 i;have r:=pf k;have F:aV a*1<=aV a*2^e:=jW aa (fr (fQ a));rw[pt K aa,rR K aa];refine bu.2 ?_;show(([]:ahc),br (ak d>0),())=(eS 0,_,());rw[Hj];congr 2;rw[cu];simp only[bg];constructor
  ·intro o C;have:=e5.zero i bx C;rw[this] at o;simp at o
  intro o;have:d≠[]:=λO=>(by rw[O] at o;exact o bn);have:=ym.2 this;omega
 have k:a<d.length:=(by simp only[bg] at k;omega);have w:=i.get k;obtain⟨f,u⟩:∃f,f=ag (d.drop a):=⟨_,bn⟩;have H:0<=f:=(by rw[u];exact e7 (i.drop a));have J:ag d=ag (d.take a)+aV a*f:=(by rw[u];exact oD d a aa);have I:=e7 (i.take a);have E:=g5 (i.take a);rw[gh,h1 aa] at E;have an:ag d/(aV a*2^e)=f/2^e:=(by rw[<-tB (fr (fQ a)),J,vK _ _ (by have:=fQ a;omega),pt I E,aiz]);refine ae.aK (P:=λq=>q=(br (ag d %(aV a*2^e)≠0),())) ?_ ?_
 ·rw[EV aa,aC];have ao:ak7 0 (List.take a d)=d.take a:=lj;show ae ((za (ak7 0 (List.take a d),(),())).bind _) _;rw[ao,TK (i.take a) (by simp;omega),aC];have D:(br (ag d %(aV a*2^e)≠0))=(br (ag (d.take a)≠0)||br (d[a] %2^e≠0)):=by
   have m:=NP (x:=ag (d.take a)) (b:=aV a) (y:=f) (P:=2^e) (P':=0) (fQ a) ⟨I,E⟩ B;rw[<-J] at m;have r:f %2^e=d[a] %2^e:=(by rw[u,mK k,G,jV,yg]);rw[r] at m;by_cases A:ag (d.take a)=0<;>by_cases T:d[a] %2^e=0<;>simp[A,T,m]
  rw[D];dsimp only;by_cases A:ag (d.take a)=0
  ·simp only[aF (show¬(ag (d.take a)≠0) fromλk=>k A),ahM,bG,eY k,aC];rw[fo (x:=(e:Z)) aa aa,Qv aa aa,aC,fA,ajk];have ce:(2:Z)^e<=2147483648:=vb aa;rw[rR aa aa,la aa aa,K1 e w.1 w.2 aa,gb];refine bu.2 ?_;simp
  simp only[aH (show ag (d.take a)≠0 from A)];exact bu.2 bn
 rintro _ rfl;dsimp only;obtain⟨l,cs⟩:∃l,d.length=a+l:=⟨d.length-a,aa⟩;have Q:ay (ak d-(a:Z))=((l:X):Z):=(by simp only[bg];rw[cK aa aa];omega);rw[Q,ij aa,bN];have ci:f<aV l:=(by have:=g5 (i.drop a);rw[akM,(aa:d.length-a=l),<-u] at this;exact this);refine ae.aK (P:=λq=>∃g,q=(g,())/\g.length=l/\aQ g/\ag g=f/2^e) ?_ ?_
 ·refine ae.steps l (λc bs=>∃g,bs=((c:Z),g,())/\g.length=l/\aQ g/\ag (g.take c)+aV c*(f/2^e/aV c)=f/2^e) ⟨_,bn,ac,aQ.lL _,by simp[ag,x8]⟩ ?_ ?_
  ·rintro c _ co ⟨g,rfl,ax,z,s⟩;have w:=i.get (n:=a+c) aa;have bl:=i.getD (a+c+1);have D:br ((c:Z)<ak (bJ l (0:Z)))=bp:=aH (by simp only[bg,qD];omega);have ao:ay ((a:Z)+(c:Z))=((a+c:X):Z):=(by rw[cK aa aa];simp);have R:aP ((a+c:X):Z)=((a+c+1:X):Z):=bk aa;simp only[D,bG,ao,R,eY (aa:a+c<d.length),aC];obtain⟨j,v,L,d0⟩:∃j,j=d[a+c]+4294967296*d.getD (a+c+1) 0/\0<=j/\j<18446744073709551616:=⟨_,bn,aa,aa⟩;have am:f/aV c=j+4294967296*(4294967296*ag (d.drop (a+c+2))):=by
    have m:d.drop a=(d.drop a).take c++d.drop (a+c):=by
     conv=>lhs;rw[<-kw c (d.drop a)]
     rw[qv]
    have r:f=ag ((d.drop a).take c)+aV c*ag (d.drop (a+c)):=by
     rw[u]
     conv=>lhs;rw[m]
     rw[l9,gh,nf,h1 aa]
    have F:=e7 ((i.drop a).take c);have o:=g5 ((i.drop a).take c);rw[gh,nf,h1 aa] at o;have C:ag (d.drop (a+c))=d[a+c]+4294967296*ag (d.drop (a+c+1)):=mK aa;have U:ag (d.drop (a+c+1))=d.getD (a+c+1) 0+4294967296*ag (d.drop (a+c+2)):=by
     rcases cS (a+c+1) d.length with h|h
     ·rw[jv h];exact mK h
     rw[o7 h,nX h,nX aa];rfl
    rw[r,vK _ _ (by have:=fQ c;omega),pt F o,C,U,v];grind
   have ap:f/2^e/aV c %4294967296=j/2^e %4294967296:=(by have m:f/2^e/aV c=f/aV c/2^e:=(by rw[tB (fr B),tB (fr (fQ c)),kR]);rw[m,am];have r:∀t:Z,j+4294967296*(4294967296*t)=j+2^e*(4294967296*(2^(32-e)*t)):=λt=>(by generalize(2:Z)^e=M at*;generalize(2:Z)^(32-e)=N at*;rw[show(4294967296:Z)*(4294967296*t)=(M*N)*(4294967296*t) by rw[<-G]];grind);rw[r,vK _ _ aa,yg]);have a0:0<=j/2^e:=mf L (fr B);have c2:j/2^e<=j:=tC _ L;refine ae.aK (P:=λq=>q=(g.set c (j/2^e %4294967296),())) ?_ ?_
   ·refine ae.aK (P:=λq=>q=(j,g,())) ?_ ?_
    ·simp only[cQ];refine ae.ite (λh=>?_) λh=>?_
     ·have h:a+c+1<d.length:=(by simp only[bg] at h;omega);rw[eY h,aC,fo (x:=d[a+c+1]) (by have:=i.get h;omega) (by have:=i.get h;omega),nR ab ab];rw[jv h] at v bl;have S:d[a+c+1]*2^(32:Z).toNat %18446744073709551616=4294967296*d[a+c+1]:=by
       rw[show(2:Z)^(32:Z).toNat=4294967296 from rfl];omega
      rw[aC,S,fo aa aa,m3 32 w.1 w.2 aa aa aa aa];refine bu.2 ?_;rw[<-v]
     have h:d.length<=a+c+1:=(by simp only[bg] at h;omega);rw[o7 h] at v;rw[fo aa aa];refine bu.2 ?_;rw[v];simp
    rintro _ rfl;dsimp only;rw[fo (x:=(e:Z)) aa aa,vl aa aa,bN,ahR,rn a0 aa,lI aa];exact bu.2 bn
   rintro _ rfl;dsimp only;refine bu.2 ⟨g.set c (j/2^e %4294967296),by rw[bk aa],by simp[ax],z.set aa aa,?_⟩;rw[iw (by simp;omega)];simp only[amc];rw[List.take_set_of_le aa,<-ap,hZ,aig 4294967296 (aV c),<-ame (ahy (fQ c))];have V:=aiy (f/2^e/aV c) 4294967296;generalize f/2^e/aV c %4294967296=q at*;generalize f/2^e/aV c/4294967296=ds at*;rw[<-V] at s;grind
  rintro _ ⟨g,rfl,ax,z,s⟩;simp only[aF (show¬((l:Z)<ak (bJ l (0:Z))) by simp only[bg,qD];omega),bO];refine bu.2 ⟨g,bn,ax,z,?_⟩;have m:0<=f/2^e:=mf H (fr B);have r:f/2^e<=f:=tC _ H;rw[pt m aa,fK aa] at s;simpa using s
 rintro _ ⟨g,rfl,ax,z,s⟩;refine ae.of_eq (ah (oB z (by show g.length<=_;omega)) rfl) ?_;show(iv g,_,())=_;rw[iv,s,an]
section
theorem Am (a:cx) (b c:Z):fN a b c=fN a c b:=by grind [BitVec.or_comm,fN]
theorem E6 {x y:Z} (b:0<=x/\x<4294967296) (a:0<=y/\y<4294967296):h6 .u64 x 32=Y (4294967296*x)/\fN .u64 (4294967296*x) (aJ y)=4294967296*x+y:=by
 constructor
 ·grind [nR]
 rw[fo a.1 aa,Am,m3 32 a.1 a.2 aa aa aa aa,aj5]
theorem EC {x y:Z} (a:0<=x/\x<18446744073709551616) (c:0<y):km .u64 x y=Y (x/y)/\i4 x y=Y (x %y):=by
 constructor
 ·unfold km;rw[au aa,Fp a.1];have b:x/y<=x:=tC _ a.1;grind [tq,ah7]
 unfold i4;grind
theorem acC (l:aQ d) (J:d.length<=10000000) (g:0<b) (F:b<4294967296):B5 (d,b,())=Y (eS (ag d/b).toNat,ag d %b,()):=by
 unfold B5;refine bP.1 ?_;simp only[bg,ij (aa:d.length<=4294967296),aC];refine ae.aK (P:=λt=>∃c,t=(ag d %b,c,())/\c.length=d.length/\aQ c/\ag c=ag d/b) ?_ ?_
 ·refine ae.steps d.length (λf u=>∃c,u=(ag (d.drop (d.length-f)) %b,((d.length:X):Z)-1-f,c,())/\c.length=d.length/\aQ c/\(∀a,a<d.length-f->(q:a<c.length)->c[a]=0)/\ag c=aV (d.length-f)*(ag (d.drop (d.length-f))/b)) ⟨bJ d.length 0,?_,ac,aQ.lL _,ac,?_⟩ ?_ ?_
  ·rw[cK aa aa,nX aa];simp[ag]
  ·simp_all [po,nX,ag]
  ·rintro f _ G ⟨c,rfl,ax,h,i,j⟩;obtain⟨a,q⟩:∃a,d.length=a+1+f:=⟨d.length-1-f,aa⟩;have ao:((d.length:X):Z)-1-(f:Z)=(a:Z):=aa;have p:a<d.length:=aa;rw[(aa:d.length-f=a+1)] at*;have s:=l.get p;obtain⟨e,k⟩:∃e,e=ag (d.drop (a+1)):=⟨_,bn⟩;have D:0<=e:=(by rw[k];exact e7 (l.drop _));rw[<-k] at j|-;have r:0<=e %b:=nV _ aa;have H:e %b<b:=pu _ g;obtain⟨v,w⟩:=E6 (x:=e %b) (y:=d[a]) ⟨r,aa⟩ s;obtain⟨z,A⟩:=EC (x:=4294967296*(e %b)+d[a]) (y:=b) ⟨aa,aa⟩ g;have n:(4294967296*(e %b)+d[a])/b<4294967296:=by
    refine rQ g ?_;omega
   have o:0<=(4294967296*(e %b)+d[a])/b:=mf aa aa;simp only[ao,aH (aa:(a:Z)>=0),bG,eY p,v,aC];rw[w,fo (x:=b) aa aa,z,aC,la o n,lI aa,A,aC];have E:=lO e b;have I:ag (d.drop a)=d[a]+4294967296*e:=(by grind [mK]);have m:ag (d.drop a)=(4294967296*(e %b)+d[a])+b*(4294967296*(e/b)):=(by grind);refine bu.2 ⟨c.set a ((4294967296*(e %b)+d[a])/b),?_,by grind,h.set o n,?_,?_⟩
   ·rw[(aa:d.length-(f+1)=a),cK aa aa,m,yg];grind
   ·grind
   rw[(aa:d.length-(f+1)=a),m,vK _ _ aa,mL aa,i a aa aa,j,hZ];grind
  rintro _ ⟨c,rfl,ax,h,i,j⟩;have ao:¬(((d.length:X):Z)-1-(d.length:Z)>=0):=aa;simp_all [x8,bu,oQ,aF,bO]
 rintro _ ⟨c,rfl,ax,h,i⟩;have C:ag d %b<b:=pu _ g;have B:0<=ag d %b:=nV _ aa;refine ae.of_eq (ah (oB h (by grind)) rfl) ?_;show(iv c,db (ag d %b),())=_;grind [la,iv]
section
variable {α B:Type}
theorem qP {c b e:bm α} (f:a<b.length) (d:α->bv B):bb (c++(b++e)) (c.length+a) d=d b[a]:=by simp_all [pC,rZ,qy,bc,gn]
def AM {b c d:bm α} (f:a<c.length) (e:α):(b++(c++d)).set (b.length+a) e=b++(c.set a e++d):=by rw[akb _ _ aa,rZ,List.set_append_left _ _ f]
end
theorem Ux {v1 fv d f a c g:Z} (r:0<e) (q:d=(v1*4294967296+fv)*e+u) (o:f=(a*4294967296+c)*e+g) (j:0<=u) (p:g<e) (h:0<=b) (k:(a-b*v1)*4294967296+c<b*fv):f<b*d:=by have i:a*4294967296+c+1<=b*(v1*4294967296+fv):=(by grind);have l:(a*4294967296+c+1)*e<=b*(v1*4294967296+fv)*e:=nb i aa;have m:0<=b*u:=nc h j;have n:b*d=b*(v1*4294967296+fv)*e+b*u:=(by grind);grind
theorem Uy {v1 fv a f c d g:Z} (t:0<e) (r:a=(v1*4294967296+fv)*e+u) (p:f=(c*4294967296+d)*e+g) (s:0<=u/\u<e) (q:0<=g) (h:0<=b/\b<4294967296) (v:1<=v1) (w:0<=fv) (j:b*fv<=(c-b*v1)*4294967296+d):b*a<f+a:=by have i:b*(v1*4294967296+fv)<=c*4294967296+d:=(by grind);have k:b*(v1*4294967296+fv)*e<=(c*4294967296+d)*e:=nb i aa;have l:b*u<=b*e:=jW aa h.1;have m:b*a=b*(v1*4294967296+fv)*e+b*u:=(by grind);have n:b*e<=4294967295*e:=nb aa aa;have o:4294967296*e<=(v1*4294967296+fv)*e:=nb aa aa;omega
end
theorem Fh (b:d.length=a+2):ag d=(d[a+1]*4294967296+d[a])*aV a+ag (d.take a):=by grind [iw,hZ,ck]
theorem adM (b:d.length=a+3):ag d=((d[a+2]*4294967296+d[a+1])*4294967296+d[a])*aV a+ag (d.take a):=by grind [hZ,iw,ck]
structure ya (v w:ahc) (n:X):Prop where
 hv:aQ v
 hw:aQ w
 Fj:v.length=n+2
 wn:w.length=n+3
 Om:n<=10000000
 top:2147483648<=v[n+1]
 lt:ag w<4294967296*ag v
theorem ya.Rl {n:X} (a:ya d f n):0<ag d:=by
 have b:=Fh a.Fj;have c:=e7 (a.hv.take n);have e:=a.hv.get (n:=n) (by grind);have g:=a.top;have h:0<(d[n+1]'(by grind)*4294967296+d[n]'(by grind))*aV n:=rT aa (fQ n)
 omega
theorem Uz {j:ahc} {n:X} (h:ya f d n) (r:b=(4294967296*d[n+2]'(by have:=h.wn;omega)+d[n+1]'(by have:=h.wn;omega))/f[n+1]'(by have:=h.Fj;omega)) (ci:e=(4294967296*d[n+2]'(by grind)+d[n+1]'(by grind)) %f[n+1]'(by grind)):ae (loop (σ:=(ep×Z×Z×bi×bt)) (ρ:=(ep×Z×bi×bt)) (λ(l,o,B,t,_)=>
 bB (α:=(ep×bi×bt)⊕((ep×Z×Z×bi×bt)⊕(ep×Z×bi×bt))) (bif br (o>4294967295)==bq then(al f (ay (ak f-2))).bind λd2=>
 (h6 bC B 32).bind λd3=>
 (bj (l.2-l.1) (ay (ak f-2))).bind λdl=>
 (bb t (l.1+dl) λam=>Y am).bind λd4=>
  bif br (aJ (o*aJ d2)>fN bC d3 (aJ d4)) then
 Y (.inl (l,t,())) else
 Y (.inr (.inr (l,o,t,()))) else Y (.inl (l,t,()))) λa=>match a with
 |.inl (O,P,_)=>(
 (al f (ay (ak f-1))).bind λp=>
  bif br (aJ (B+aJ p)>4294967295) then
 Y (.inr (O,aJ (o-1),P,())) else
 Y (.inl (O,aJ (o-1),aJ (B+aJ p),P,())))
 |.inr i=>Y i) ((g.length,g.length+d.length),b,e,g++(d++j),())) (λi=>∃a,i=((g.length,g.length+d.length),a,g++(d++j),())/\0<=a/\a<4294967296/\ag d/ag f<=a/\a*ag f<ag d+ag f):=by
 have c1:=h.Fj;have c2:=h.wn;have fp:=h.Om;have bl:=h.Rl;have f7:=h.hv.get (n:=n+1) aa;have s:=h.hv.get (n:=n) aa;have f0:=h.hw.get (n:=n+2) aa;have f1:=h.hw.get (n:=n+1) aa;have cv:=h.hw.get (n:=n) aa;have fT:=h.top;have K:=Fh c1;have w:=adM c2;have E:=e7 (h.hv.take n);have F:=g5 (h.hv.take n);have R:=e7 (h.hw.take n);have G:=g5 (h.hw.take n);rw[gh,h1 aa] at F G;have bx:=h.lt;have z:=fQ n;have ao:ay (ak f-1)=((n+1:X):Z):=(by grind [cK,bg]);have ad:ay (ak f-2)=((n:X):Z):=(by grind [cK,bg]);have ap:al f ((n+1:X):Z)=Y f[n+1]:=eY aa;have av:al f ((n:X):Z)=Y f[n]:=eY aa;have a0:∀q:Z->ag6,bb (g++(d++j)) (g.length+n) q=q d[n]:=λq=>qP aa q;generalize f2:f[n+1]=v1 at*;generalize f3:f[n]=fv at*;generalize f4:d[n+2]=D at*;generalize f5:d[n+1]=d1 at*;generalize f6:d[n]=k at*;obtain⟨c,co⟩:∃c,c=4294967296*D+d1:=⟨_,bn⟩;rw[<-co] at r ci;have w:ag d=(c*4294967296+k)*aV n+ag (d.take n):=(by grind);have ex:D<=v1:=by
  rcases i7 v1 D with m|m
  ·exfalso;have S:(v1*4294967296+fv+1)*aV n<=(v1*4294967296+4294967296)*aV n:=nb aa aa;have H:((v1+1)*4294967296*4294967296)*aV n<=(c*4294967296+k)*aV n:=nb aa aa;grind
  omega
 have el:0<=ag d/ag f:=mf (e7 h.hw) aa;have em:ag d/ag f<4294967296:=rQ bl bx;have cs:0<=c:=aa;have eq:=lO c v1;have ft:0<=c %v1:=nV _ aa;have fz:c %v1<v1:=pu _ aa;have fs:0<=c/v1:=mf cs aa;have T:∀a,0<=a->(c-a*v1)*4294967296+k<a*fv->ag d/ag f<a:=λa r h=>(by have:=Ux z K w E G r h;simp_all [rQ]);have an:∀a,0<=a->a<4294967296->a*fv<=(c-a*v1)*4294967296+k->a*ag f<ag d+ag f:=λa a3 a4 h=>Uy z K w ⟨E,F⟩ R ⟨a3,a4⟩ aa s.1 h;refine ahx (λC=>∃a i,C=((g.length,g.length+d.length),a,i,g++(d++j),())/\0<=a/\a<=4294967297/\0<=i/\i<4294967296/\i=c-a*v1/\ag d/ag f<=a) (λC=>C.2.1.toNat) ⟨b,e,bn,aa,?_,aa,aa,?_,?_⟩ ?_
 ·rw[r];have:c<4294967298*v1:=aa;have:=rQ aa this;omega
 ·grind
 ·rcases i7 (c/v1) (ag d/ag f) with m|m
  ·exfalso;have S:(c/v1+1)*ag f<=ag d:=by
    have v:(c/v1+1)*ag f<=ag d/ag f*ag f:=nb aa aa;have U:=lO (ag d) (ag f);have I:=nV (ag d) (aa:ag f≠0);grind
   have H:(c+1)*4294967296<=(c/v1+1)*(v1*4294967296):=(by grind);have d5:(c+1)*4294967296*aV n<=(c/v1+1)*(v1*4294967296)*aV n:=nb H aa;have d6:0<=(c/v1+1)*(fv*aV n+ag (f.take n)):=nc aa (by have:=nc s.1 (fr z);omega);have d7:(c/v1+1)*ag f=(c/v1+1)*(v1*4294967296)*aV n+(c/v1+1)*(fv*aV n+ag (f.take n)):=(by grind);have d8:(k+1)*aV n<=4294967296*aV n:=nb aa aa;grind
  omega
 rintro _ ⟨a,i,rfl,v,U,I,V,d9,ek⟩;have ce:∀a,(a-1)*v1=a*v1-v1:=λa=>(by grind);have J:ag d/ag f<a->ae ((al f (ay (ak f-1))).bind λp=>
  bif br (aJ (i+aJ p)>4294967295) then
 Y (.inr ((g.length,g.length+d.length),aJ (a-1),g++(d++j),())) else
 Y (
  .inl ((g.length,g.length+d.length),aJ (a-1),aJ (i+aJ p),g++(d++j),()))) (λ(Q:(ep×Z×Z×bi×bt)⊕(ep×Z×bi×bt))=>match Q with
  |.inl N=>(∃a i,N=((g.length,g.length+d.length),a,i,g++(d++j),())/\0<=a/\a<=4294967297/\0<=i/\i<4294967296/\i=c-a*v1/\ag d/ag f<=a)/\N.2.1.toNat<a.toNat
  |.inr i=>∃a,i=((g.length,g.length+d.length),a,g++(d++j),())/\0<=a/\a<4294967296/\ag d/ag f<=a/\a*ag f<ag d+ag f):=by
  intro fl;rw[ao,ap,aC,fo (x:=v1) aa aa,fo (x:=i+v1) aa aa,fo (x:=a-1) aa aa,cQ];refine ae.ite (λm=>?_) λm=>?_
  ·refine bu.2 ⟨a-1,bn,aa,?_,aa,?_⟩
   ·grind
   have bs:a-1<4294967296:=(by grind);refine an (a-1) aa bs ?_;rw[ce];have f8:(a-1)*fv<=4294967295*fv:=nb aa s.1;omega
  refine bu.2 ⟨⟨a-1,i+v1,bn,aa,aa,aa,aa,?_,aa⟩,?_⟩
  ·grind
  show(a-1).toNat<a.toNat;omega
 by_cases L:a>4294967295
 ·simp only[aH L,show(bp==bq)=bq from rfl,bO,aC];refine(J aa).mono ?_;rintro(u|u) A
  ·exact A
  omega
 simp only[aF L,ahM,bG,ad,av,aC];obtain⟨ds,d0⟩:=E6 (x:=i) (y:=k) ⟨I,V⟩ cv;have fn:=Ab (x:=a) (y:=fv) ⟨v,aa⟩ s;rw[ds,aC];simp only[rZ,eT (aa:n<d.length),aC,a0,d0];rw[fo (x:=fv) aa aa,fo (x:=a*fv) aa aa];by_cases M:a*fv>4294967296*i+k
 ·simp only[aH M,bG,aC];refine(J (T a v aa)).mono ?_;rintro(u|u) A
  ·exact A
  omega
 simp only[aF M,bO,aC];grind [bu]
theorem ac2 {r:ahc} (L:aQ d) (M:aQ f) (a4:d.length<f.length) (ap:f.length<=100000000) (K:0<=b/\b<4294967296) (av:∀h e a,a.length=f.length->aQ a->(∀(D:d.length<a.length) (m:d.length<f.length),a[d.length]=f[d.length])->0<=h->h<4294967296->0<=e->e<=1->ag a-aV d.length*(h+e)=ag f-b*ag d->v ((g.length,g.length+f.length),h,e,g++(a++r),())):ae (loop (σ:=(ep×Z×Z×Z×bi×bt)) (ρ:=(ep×Z×Z×bi×bt)) (λ(j,p,s,o,q,_)=>
 bif br (o<ak d) then
 (al d o).bind λu=>
 (eM bC (aJ (aJ (b*aJ u)+p)) 32).bind λU=>
 (bj (j.2-j.1) o).bind λP=>
 (bb q (j.1+P) λC=>Y C).bind λA=>
 (bj (j.2-j.1) o).bind λz=>
 (bb q (j.1+z) λ_=>Y (q.set (j.1+z) (db (ey bC (aJ (aJ (aJ A-ey bC (aJ (aJ (b*aJ u)+p)) 4294967295)-s)) 4294967295)))).bind λad=>
 (eM bC (aJ (aJ (aJ A-ey bC (aJ (aJ (b*aJ u)+p)) 4294967295)-s)) 32).bind λV=>
 Y (.inl (j,U,ey bC V 1,aP o,ad,())) else
 Y (.inr (j,p,s,q,()))) ((g.length,g.length+f.length),0,0,0,g++(f++r),())) v:=by
 refine ae.steps d.length (λc T=>∃h e a,T=((g.length,g.length+f.length),h,e,(c:Z),g++(a++r),())/\a.length=f.length/\aQ a/\(∀l,c<=l->(D:l<a.length)->(m:l<f.length)->a[l]=f[l])/\0<=h/\h<4294967296/\0<=e/\e<=1/\ag a-aV c*(h+e)=ag f-b*ag (d.take c)) ⟨0,0,f,bn,bn,M,λ_ _ _ _=>rfl,aa,aa,aa,aa,by simp[ag]⟩ ?_ ?_
 ·rintro c _ t ⟨h,e,a,rfl,w,m,y,E,F,G,H,I⟩;have N:=L.get t;have bl:=m.get (n:=c) aa;have a3:=Ab K N;obtain⟨k,J,Q,R⟩:∃k,k=b*d[c]+h/\0<=k/\k<18446744073709551616:=⟨_,bn,aa,aa⟩;simp only[aH (show(c:Z)<ak d by grind),bG,eY t,aC];have ao:aJ (aJ (b*aJ d[c])+h)=k:=by
   rw[fo (x:=d[c]) aa aa,fo (x:=b*d[c]) aa aa,<-J,fo Q R]
  rw[ao];obtain⟨i,a0,am,an⟩:∃i,i=a[c]-k %4294967296-e/\-4294967296<=i/\i<4294967296:=⟨_,bn,aa,aa⟩;have B:aJ (aJ (aJ a[c]-ey bC k 4294967295)-e)=i %18446744073709551616:=(by simp_all [and_low32,rL]);have ax:i %18446744073709551616/4294967296 %2^1=-(i/4294967296):=aa;have S:i %18446744073709551616 %4294967296=i %4294967296:=aa;simp only[m7,rZ,eT (aa:c<f.length),aC,qP (aa:c<a.length),B,rn (aa:0<=i %18446744073709551616) aa,AM (aa:c<a.length)];rw[r7 1 aa aa 1 ab ab,ax,S];refine bu.2 ⟨k/4294967296,-(i/4294967296),a.set c (i %4294967296),by rw[bk aa],by simp[w],m.set aa aa,?_,aa,aa,aa,aa,?_⟩
  ·intro l bs bx O;rw[yl aa];exact y l aa aa O
  rw[mL aa,hZ,iw t];grind
 rintro _ ⟨h,e,a,rfl,w,m,y,E,F,G,H,I⟩;simp_all [bu,bd,fK,aF,bg,bO,ak]
theorem Sv {m:ahc} (C:aQ f) (D:aQ d) (L:f.length<d.length) (J:d.length<=100000000) (K:∀c a,a.length=d.length->aQ a->(∀(v:f.length<a.length) (i:f.length<d.length),a[f.length]=d[f.length])->0<=c->c<=1->ag a+aV f.length*c=ag d+ag f->w ((g.length,g.length+d.length),c,g++(a++m),())):ae (loop (σ:=(ep×Z×Z×bi×bt)) (ρ:=(ep×Z×bi×bt)) (λ(e,o,k,l,_)=>
 bif br (k<ak f) then
 (al f k).bind λr=>
 (bj (e.2-e.1) k).bind λE=>
 (bb l (e.1+E) λu=>Y u).bind λs=>
 (bj (e.2-e.1) k).bind λq=>
 (bb l (e.1+q) λ_=>Y (l.set (e.1+q) (db (ey bC (aJ (aJ (aJ s+aJ r)+o)) 4294967295)))).bind λI=>
 (eM bC (aJ (aJ (aJ s+aJ r)+o)) 32).bind λH=>
 Y (.inl (e,H,aP k,I,())) else
 Y (.inr (e,o,l,()))) ((g.length,g.length+d.length),0,0,g++(d++m),())) w:=by
 refine ae.steps f.length (λb F=>∃c a,F=((g.length,g.length+d.length),c,(b:Z),g++(a++m),())/\a.length=d.length/\aQ a/\(∀j,b<=j->(v:j<a.length)->(i:j<d.length)->a[j]=d[j])/\0<=c/\c<=1/\ag a+aV b*c=ag d+ag (f.take b)) ⟨0,d,bn,bn,D,λ_ _ _ _=>rfl,aa,aa,by simp[ag]⟩ ?_ ?_
 ·rintro b _ p ⟨c,a,rfl,x,i,y,z,A,B⟩;have N:=C.get p;have O:=i.get (n:=b) aa;obtain⟨h,M,G,P⟩:∃h,h=a[b]+f[b]+c/\0<=h/\h<8589934592:=⟨_,bn,aa,aa⟩;simp only[aH (show(b:Z)<ak f by grind),bG,eY p,aC];have t:aJ (aJ (aJ a[b]+aJ f[b])+c)=h:=by
   grind [fo]
  simp only[m7,rZ,eT (aa:b<d.length),aC,qP (aa:b<a.length),t,rn G (aa:h<18446744073709551616),AM (aa:b<a.length)];refine bu.2 ⟨h/4294967296,a.set b (h %4294967296),by rw[bk aa],by grind,i.set aa aa,?_,aa,aa,?_⟩
  ·grind
  grind [mL,hZ,iw,aiy]
 rintro _ ⟨c,a,rfl,x,i,y,z,A,B⟩;simp_all [bu,bd,fK,aF,bg,bO,ak]
theorem TY {a d g c h f:Z} (j:a+b*d=u+e) (i:u=c-g*e-b*(4294967296*-1)):a+b*(h+d-4294967296*f-h)=c-(g-1)*e+b*(4294967296*(1-f)):=by grind
theorem TZ {d c g a h f:Z} (i:e-b*(d+c)=u-g*a):e+b*(h-d-c-4294967296*f-h)=u-g*a-b*(4294967296*f):=by grind
theorem ae.bs {c:bv l} {b:l->bv t} {a:t->Prop} {y:l} (d:c=Y y) (e:ae (b y) a):ae (c.bind b) a:=by grind
theorem T0 {A C:ahc} {n:X} (i:ya d f n):ae (y1 ((A++(f++C),A.length,A.length+f.length),d,())) (λq=>∃b,q=(A++(b++C),ag f/ag d,())/\b.length=f.length/\aQ b/\ag b=ag f %ag d):=by
 have H:=i.Fj;have ds:=i.wn;have fl:=i.Om;have k:=i.Rl;have a4:=e7 i.hw;have fp:=i.top;have Q:=i.hv.get (n:=n+1) aa;have O:=i.hw.get (n:=n+2) aa;have c2:=i.hw.get (n:=n+1) aa;have D:ak d=((n+2:X):Z):=(by simp only[bg];omega);have ao:ay (((n+2:X):Z)-1)=((n+1:X):Z):=(by rw[cK aa aa];omega);have a0:al d ((n+1:X):Z)=Y d[n+1]:=eY aa;obtain⟨d0,ap⟩:=E6 (x:=f[n+2]) (y:=f[n+1]) O c2;obtain⟨d1,d2⟩:=EC (x:=4294967296*f[n+2]+f[n+1]) (y:=d[n+1]) ⟨aa,aa⟩ aa;unfold y1;have m:bj (A.length+f.length-A.length) (ak d)=Y (n+2):=(by rw[rZ,D];exact eT aa);have i1:bj (A.length+f.length-A.length) (ay (ak d-1))=Y (n+1):=(by rw[rZ,D,ao];exact eT aa);have R:al d (ay (ak d-1))=Y d[n+1]:=(by rw[D,ao];exact a0);refine ae.bs m (ae.bs (qP aa _) (ae.bs (by rw[fo O.1 aa];exact d0) (ae.bs i1 (ae.bs (qP aa _) (ae.bs R (ae.bs (by rw[ap,fo Q.1 aa];exact d1) (ae.bs R (ae.bs (by rw[ap,fo Q.1 aa];exact d2) ?_))))))));refine ae.aK (Uz i bn rfl) ?_;rintro _ ⟨g,rfl,an,ax,fT,f0⟩;refine ae.aK (P:=λq=>∃e j b,q=((A.length,A.length+f.length),e,j,A++(b++C),())/\b.length=f.length/\aQ b/\0<=e/\e<4294967296/\0<=j/\j<=1/\(∀(i:d.length<b.length) (L:d.length<f.length),b[d.length]=f[d.length])/\ag b-aV d.length*(e+j)=ag f-g*ag d) (ac2 i.hv i.hw aa aa ⟨an,ax⟩ λe j b p v T U V ad am w=>⟨e,j,b,bn,p,v,U,V,ad,am,T,w⟩) ?_;rintro _ ⟨e,j,b,rfl,p,v,U,V,ad,am,T,w⟩;have fs:=v.get (n:=n+2) aa;obtain⟨c,bl,d5,d6⟩:∃c,c=b[n+2]-e-j/\-4294967296<=c/\c<4294967296:=⟨_,bn,aa,aa⟩;have K:aJ (aJ (aJ b[n+2]-e)-j)=c %18446744073709551616:=(by rw[rL,rL,rL,bl];omega);have d3:c %18446744073709551616/4294967296 %2^1=-(c/4294967296):=(by rw[show(2:Z)^1=2 from rfl];omega);have d4:c %18446744073709551616 %4294967296=c %4294967296:=aa;refine ae.bs m (ae.bs (qP aa _) (ae.bs m (ae.bs (y:=A++(b.set (n+2) (c %4294967296)++C)) ?_ (ae.bs (y:=c %18446744073709551616/4294967296) ?_ ?_))))
 ·rw[qP aa,K,rn aa aa,AM aa,d4]
 ·rw[K,m7]
 rw[r7 1 aa aa 1 ab ab,d3];have ek:=fQ (n+2);have cv:ag (b.set (n+2) (c %4294967296))=ag b+aV (n+2)*(c %4294967296-b[n+2]):=mL aa _;have r:aQ (b.set (n+2) (c %4294967296)):=v.set aa aa;rw[H] at w;have d7:=lO c 4294967296;have s:ag (b.set (n+2) (c %4294967296))=ag f-g*ag d-aV (n+2)*(4294967296*(c/4294967296)):=(by rw[cv];generalize c/4294967296=z at*;generalize c %4294967296=B at*;have:B=b[n+2]-e-j-4294967296*z:=aa;rw[this];exact TZ w);have ci:=g5 r;have el:=e7 r;rw[ajl,p,ds,(aa:n+3=(n+2)+1),hZ] at ci;have M:=lO (ag f) (ag d);have eq:=nV (ag f) (aa:ag d≠0);have ex:=pu (ag f) k;rw[gH,cQ];refine ae.ite (λav=>?_) λav=>?_
 ·have F:c/4294967296=0:=aa;rw[F] at s;have l:ag f/ag d=g:=by
   have E:g*ag d<=ag f:=aa;have L:g<=ag f/ag d:=(akc k).2 E;omega
  rw[aY (by simp;omega),la an ax];refine bu.2 ⟨_,by rw[l],by simp[p],r,?_⟩;rw[s];rw[l] at M;rw[kR g];omega
 have F:c/4294967296=-1:=aa;rw[F] at s;have l:ag f/ag d=g-1:=(by have E:ag f<g*ag d:=aa;have L:ag f/ag d<g:=rQ k E;have d8:(g-1)*ag d<ag f+1:=(by have:(g-1)*ag d=g*ag d-ag d:=(by grind);omega);have d9:g-1<=ag f/ag d:=(akc k).2 aa;omega);have fn:=mf a4 (fr k);have G:(b.set (n+2) (c %4294967296)).length=f.length:=(by simp[p]);rw[<-G];refine ae.aK (P:=λq=>∃e a,q=((A.length,A.length+(b.set (n+2) (c %4294967296)).length),e,A++(a++C),())/\a.length=f.length/\aQ a/\0<=e/\e<=1/\ag a+aV d.length*e=ag (b.set (n+2) (c %4294967296))+ag d) (Sv i.hv r aa aa λe a I o fz J S u=>⟨e,a,bn,by rw[I,G],o,J,S,u⟩) ?_;rintro _ ⟨h,a,rfl,I,o,J,S,u⟩;rw[G];have ft:=o.get (n:=n+2) aa;refine ae.bs m (ae.bs (qP aa _) (ae.bs m (ae.bs (y:=A++(a.set (n+2) ((a[n+2]+h) %4294967296)++C)) ?_ ?_)))
 ·rw[qP aa,AM aa,la J aa,pp]
 rw[aY (by simp;omega),fo aa aa,la aa aa];refine bu.2 ⟨a.set (n+2) ((a[n+2]+h) %4294967296),by rw[l],by simp[I],o.set aa aa,?_⟩;have c1:ag (a.set (n+2) ((a[n+2]+h) %4294967296))=ag a+aV (n+2)*((a[n+2]+h) %4294967296-a[n+2]):=mL aa _;have N:aQ (a.set (n+2) ((a[n+2]+h) %4294967296)):=o.set aa aa;have co:=g5 N;have em:=e7 N;have ce:(a.set (n+2) ((a[n+2]+h) %4294967296)).length=(n+2)+1:=(by rw[ajl];omega);rw[ce,hZ] at co;have f2:=lO (a[n+2]+h) 4294967296;rw[H] at u;have t:ag (a.set (n+2) ((a[n+2]+h) %4294967296))=ag f-(g-1)*ag d+aV (n+2)*(4294967296*(1-(a[n+2]+h)/4294967296)):=(by rw[c1];generalize(a[n+2]+h)/4294967296=z at*;generalize(a[n+2]+h) %4294967296=B at*;have:B=a[n+2]+h-4294967296*z:=aa;rw[this];exact TY u s);rw[l] at M;have bx:ag f-(g-1)*ag d=ag f %ag d:=(by rw[kR (g-1)];omega);rw[bx] at t;have dl:=g5 i.hv;rw[H] at dl;have cs:(a[n+2]+h)/4294967296=1:=by
  rcases i7 0 ((a[n+2]+h)/4294967296) with a3|a3
  ·omega
  exfalso;have:(a[n+2]+h)/4294967296=0:=aa;rw[this] at t;omega
 rw[cs] at t;rw[t];simp
theorem uH (a:0<=b):ag (eS b.toNat)=b:=by grind [sC]
def XJ {n:X} (f:aQ d) (m:e5 d) (u:d.length=n+2):∃c:X,c<=31/\ur (d[n+1],())=Y ((c:Z),())/\ag d*2^c<aV (n+2)/\2147483648*aV (n+1)<=ag d*2^c:=by
 have l:=f.get (n:=n+1) aa;have q:d[n+1]≠0:=m _ (by rw[al8,bc aa];congr 2;omega);have h:ag d=ag (d.take (n+1))+aV (n+1)*d[n+1]:=(by rw[<-iw aa,fK aa]);have r:=e7 (f.take (n+1));have j:=g5 (f.take (n+1));rw[gh,h1 aa] at j;generalize d[n+1]=v at*;obtain⟨a,rfl⟩:=gg l.1;have i:0<a:=aa;have t:aL a<=32:=gp.2 aa;have s:=pQ i;obtain⟨g,o⟩:=tV i;obtain⟨b,k⟩:∃b,aL a=b+1:=⟨aL a-1,aa⟩;refine⟨32-aL a,aa,?_,?_,?_⟩
 ·unfold ur;refine ah (H7 (n:=a) aa) ?_;show Y (ay (32-(aL a:Z)),())=_;rw[cK aa aa];congr 2;omega
 ·have ao:ag d<aV (n+1)*2^aL a:=by
   have:aV (n+1)*((a:Z)+1)<=aV (n+1)*2^aL a:=jW (by rw[<-xL];omega) (fr (fQ _));have p:aV (n+1)*((a:Z)+1)=aV (n+1)*(a:Z)+aV (n+1):=(by rw[amf,amg]);show ag d<_;rw[h];show ag (d.take (n+1))+aV (n+1)*(a:Z)<_;omega
  have e:ag d*2^(32-aL a)<aV (n+1)*2^aL a*2^(32-aL a):=rS ao (jT _);rw[jV,<-lP,(aa:aL a+(32-aL a)=32)] at e;rw[hZ,kR];rw[kR];have:aV (n+1)*2^32=4294967296*aV (n+1):=(by rw[kR];rfl);omega
 have ao:aV (n+1)*2^b<=ag d:=(by have:aV (n+1)*2^b<=aV (n+1)*(a:Z):=jW (by rw[<-xL];rw[k] at g;simp only[amh] at g;omega) (fr (fQ _));rw[h];show _<=ag (d.take (n+1))+aV (n+1)*(a:Z);omega);have e:aV (n+1)*2^b*2^(32-aL a)<=ag d*2^(32-aL a):=nb ao (fr (jT _));rw[jV,<-lP,(aa:b+(32-aL a)=31)] at e;have:aV (n+1)*2^31=2147483648*aV (n+1):=(by rw[kR];rfl);omega
def T2 (g:ag d=b) (e:aQ d) (l:e5 d) (q:b<aV (a+2)) (r:2147483648*aV (a+1)<=b):∃c:d.length=a+2,2147483648<=d[a+1]:=by
 have t:=fQ (a+1);have k:d.length=a+2:=by
  have o:=g5 e;have h:d≠[]:=λi=>(by rw[i] at g;simp only[ag] at g;omega);have p:=e5.low e l h;rcases qE d.length (a+2) with c|c|c
  ·have:=pf (m:=d.length) (n:=a+1) aa;omega
  ·exact c
  have:=pf (m:=a+2) (n:=d.length-1) aa;omega
 refine⟨k,?_⟩;have s:ag d=ag (d.take (a+1))+aV (a+1)*d[a+1]:=(by rw[<-iw aa,fK aa]);have j:=g5 (e.take (a+1));rw[gh,h1 aa] at j;rcases i7 d[a+1] 2147483648 with f|f
 ·exfalso;have:aV (a+1)*(d[a+1]+1)<=aV (a+1)*2147483648:=jW aa aa;rw[amf,amg] at this;omega
 exact f
theorem L8 {g c h f d a:Z} (k:(f+b*(h+a))+e*c=g) (i:h=e*u+d):(f+b*(d+a))+e*(c+b*(u-0))=g:=by subst i;have ao:b*(e*u+d+a)=b*(d+a)+b*(e*u):=(by grind);have j:e*(c+b*(u-0))=e*c+b*(e*u):=(by grind);omega
def T1 {n:X} (z:aQ d) (J:ag d=b) (d6:b<aV (n+2)) (L:d.length=n+2) (a3:2147483648<=d[n+1]) (co:n<=10000000) (a4:aQ f) (am:ag f=e) (V:f.length=c) (em:c=a+(n+2)) (d5:c<=10000000) (ap:ag (f.drop a)<b) {H:ka->Prop} (ad:∀i h,i.length=a->aQ i->h.length=c->aQ h->ag h+b*ag i=e->ag h<b->H (i,h,())):ae (loop (σ:=(Z×bi×bi×bt)) (ρ:=ka) (λ(r,P,u,_)=>
 bif br (r>=0) then
 ((gy r).bind λM=>(gy (aP (ay (r+ak d)))).bind λN=>(hb M N u.length).bind λ_=>(nL u.length).map λ_=>(M,N)).bind λt=>
  bif ca t.1 t.2 then
 (y1 ((u,t.1,t.2),d,())).bind λ(ci,cs,_)=>
 wr P r cs λds=>
 Y (.inl (ay (r-1),ds,ci,())) else bo else
 Y (.inr (P,u,()))) (ay (ak (bJ a (0:Z))-1),bJ a (0:Z),f,())) H:=by
 have K:0<b:=(by have o:=Fh L;have q:=e7 (z.take n);have d1:=z.get (n:=n) aa;have d2:0<(d[n+1]*4294967296+d[n])*aV n:=rT aa (fQ n);omega);refine ae.steps a (λl cv=>∃i h,cv=(((a:X):Z)-1-l,i,h,())/\i.length=a/\aQ i/\(∀g,g<a-l->(an:g<i.length)->i[g]=0)/\h.length=c/\aQ h/\ag h+b*ag i=e/\ag (h.drop (a-l))<b) ⟨bJ a 0,f,?_,ac,aQ.lL _,ac,V,a4,by rw[po,am];omega,ap⟩ ?_ ?_
 ·rw[show ay (ak (bJ a (0:Z))-1)=(a:Z)-1-((0:X):Z) from ?_];simp only[bg,qD];rw[cK aa aa];omega
 ·rintro l _ ek ⟨i,h,rfl,ax,E,F,G,p,o,q⟩;obtain⟨g,an⟩:∃g,a=g+1+l:=⟨a-1-l,aa⟩;have ao:((a:X):Z)-1-(l:Z)=(g:Z):=aa;rw[(aa:a-l=g+1)] at q;have R:aP (ay ((g:Z)+ak d))=((g+(n+3):X):Z):=by
   simp only[bg];rw[cK aa aa,(aa:(g:Z)+(d.length:Z)=((g+(n+2):X):Z)),bk aa];rfl
  simp only[ao,aH (aa:(g:Z)>=0),bG,R,u1,aC,qa (aa:g<=g+(n+3)/\g+(n+3)<=h.length),Jd (aa:0<h.length),jo,show ca g (g+(n+3))=bp from by simp];obtain⟨m,v⟩:∃m,m=h.take g:=⟨_,bn⟩;obtain⟨j,B⟩:∃j,j=(h.drop g).take (n+3):=⟨_,bn⟩;obtain⟨k,x⟩:∃k,k=h.drop (g+(n+3)):=⟨_,bn⟩;have w:m.length=g:=(by rw[v,gh];omega);have s:j.length=n+3:=(by rw[B,gh,nf];omega);have y:h=m++(j++k):=(by rw[v,B,x,<-qv,kw,kw]);have d3:k.length=c-(g+(n+3)):=(by rw[x,nf,G]);have ce:aQ m:=(by rw[v];exact p.take g);have D:aQ j:=(by rw[B];exact(p.drop g).take _);have O:aQ k:=(by rw[x];exact p.drop _);have d7:ag (h.drop g)=ag j+aV (n+3)*ag k:=(by rw[y,rV aa,qw aa,iL,l9,s]);have d8:ag (h.drop g)=h[g]+4294967296*ag (h.drop (g+1)):=mK aa;have ex:=p.get (n:=g) aa;have T:=e7 O;have d4:0<=aV (n+3)*ag k:=nc (fr (fQ _)) T;have el:ag (h.drop g)<4294967296*b:=aa;have U:ag k=0:=by
   rcases i7 0 (ag k) with S|S
   ·exfalso;have:=jW (aa:1<=ag k) (fr (fQ (n+3)));have d0:aV (n+3)=4294967296*aV (n+2):=hZ (n+2);have:=e7 D;omega
   omega
  have Q:ya d j n:=⟨z,D,L,s,co,a3,by rw[J];omega⟩;have av:0<=ag j/b:=ah7 (e7 D) aa;have a0:ag j/b<4294967296:=ami K aa;have d9:=aiy (ag j) b;have eq:=ajm (ag j) K;have I:=T0 (A:=m) (C:=k) Q;rw[<-y,w,s,J] at I;refine ae.aK I ?_;rintro _ ⟨c1,rfl,c2,dl,db⟩;dsimp only;rw[lI aa];refine bu.2 ⟨i.set g (ag j/b),m++(c1++k),?_,by simp[ax],E.set av a0,?_,by simp;omega,aQ.append.2 ⟨ce,aQ.append.2 ⟨dl,O⟩⟩,?_,?_⟩
  ·rw[cK aa aa];congr 1;omega
  ·intro bs fl bx;rw[yl aa];exact F bs aa (by simpa using bx)
  ·rw[mL aa,F g aa aa,l9,l9,w,db];rw[y,l9,l9,w] at o;rw[c2];rw[s] at o;have bl:ag j=b*(ag j/b)+ag j %b:=aa;exact L8 o bl
  rw[(aa:a-(l+1)=g),rV aa,qw aa,iL,l9,U,db];omega
 rintro _ ⟨i,h,rfl,ax,E,F,G,p,o,q⟩;have ao:¬(((a:X):Z)-1-(a:Z)>=0):=aa;simp only[aF ao,bO];rw[oQ,lj] at q;exact bu.2 (ad i h ax E G p o q)
def ED {A B q r:Z} (f:0<B) (b:A=B*q+r) (c:0<=r) (d:r<B):A/B=q/\A %B=r:=by have e:=lO A B;have a:A/B=q:=(by rw[b,Int.mul_add_ediv_left _ _ aa,pt c d];omega);refine⟨a,?_⟩;rw[a] at e;omega
theorem T3 (l:aQ d) (p:aQ f) (V:e5 d) (F:e5 f) (fn:d.length<=1000000) (fp:f.length<=1000000) (N:f≠[]):B4 (d,f,())=Y (eS (ag d/ag f).toNat,eS (ag d %ag f).toNat,()):=by
 unfold B4;refine bP.1 ?_;have K:=e7 l;have I:0<ag f:=(by have:=e7 p;have:ag f≠0:=λam=>N (e5.zero p F am);omega);refine ae.bs (Gf l p V F aa aa) ?_;dsimp only;rw[cQ];refine ae.ite (λt=>?_) λt=>?_
 ·have C:ag d<ag f:=by
   unfold fE at t;split at t
   ·assumption
   split at t<;>omega
  refine ae.bs (yI aa) (bu.2 ?_);rw[pt K C,rR K C];show(([]:ahc),d,())=(eS 0,eS (ag d).toNat,());rw[Hj,<-e5.eq l V]
 have em:ag f<=ag d:=by
  unfold fE at t;split at t
  ·omega
  omega
 rw[gH,cQ];refine ae.ite (λh=>?_) λh=>?_
 ·have h:f.length=1:=(by simp only[bg] at h;omega);obtain⟨o,rfl⟩:=List.length_eq_one_iff.1 h;have co:=(aQ.cons.1 p).1;have u:ag [o]=o:=(by simp[ag]);rw[u] at I|-;have d3:0<=ag d %o:=ajn _ aa;have fl:ag d %o<o:=ajm _ I;refine ae.bs (y:=o) rfl (ae.bs (acC l aa aa co.2) ?_);dsimp only;refine ae.bs (oB (aQ.cons.2 ⟨⟨d3,aa⟩,aQ.nil⟩) ac) (bu.2 ?_);show(_,iv [ag d %o],())=_;rw[iv];simp[ag]
 obtain⟨b,cv⟩:∃b,f.length=b+2:=(by have:=ym.2 N;simp only[bg] at h;exact⟨f.length-2,aa⟩);have ao:ay (ak f-1)=((b+1:X):Z):=(by simp only[bg];rw[cK aa aa];omega);obtain⟨a,T,d5,U,d6⟩:=XJ p F cv;have ex:b+2<=d.length:=by
  rcases cS d.length (b+2) with j|j
  ·have:=qp l p F aa;omega
  exact j
 have D:=jT a;refine ae.bs (y:=f[b+1]) (by rw[ao];exact eY aa) (ae.bs d5 ?_);refine ae.bs (J7 p aa aa) ?_;obtain⟨s,u⟩:∃s,s=eS (ag f*2^a).toNat:=⟨_,bn⟩;have bl:0<=ag f*2^a:=aj4 aa aa;have M:ag s=ag f*2^a:=(by rw[u,uH bl]);have uV:aQ s:=(by rw[u];exact ob _);have d7:e5 s:=(by rw[u];exact w4 _);obtain⟨d0,c1⟩:=T2 M uV d7 U d6;rw[<-u];have an:aP (ak d)=((d.length+1:X):Z):=bk aa;refine ae.bs (y:=d.length+1) (by rw[an];exact ij aa) ?_;refine ae.bs (J7 l aa aa) ?_;have a4:0<=ag d*2^a:=aj4 aa aa;have el:ag d*2^a<aV (d.length+1):=(by have w:ag d*2^a<aV d.length*2^a:=aj7 (g5 l) D;have x:aV d.length*2^a<=aV d.length*4294967296:=akd (by have:=vb T;omega) (ahy (fQ _));rw[hZ,aig 4294967296];omega);obtain⟨m,E⟩:∃m,m=eS (ag d*2^a).toNat:=⟨_,bn⟩;have R:m.length<=d.length+1:=(by rw[E];exact q5 aa);have d2:aQ m:=(by rw[E];exact ob _);have d1:ag m=ag d*2^a:=(by rw[E,uH a4]);rw[<-E];obtain⟨i,O⟩:∃i,i=jt (bJ (d.length+1) (0:Z)) m 0 (bJ (d.length+1) (0:Z)).length:=⟨_,bn⟩;have J:i=m++bJ (d.length+1-m.length) 0:=(by rw[O];unfold jt;rw[ajo,List.nil_append,List.length_replicate,Nat.sub_zero,ck R,amj,aix R,List.drop_replicate]);have dl:i.length=d.length+1:=(by rw[J];simp;omega);have S:aQ i:=(by rw[J];exact aQ.append.2 ⟨d2,aQ.lL _⟩);have Q:ag i=ag d*2^a:=(by rw[J,l9,po,d1];omega);dsimp only;rw[<-O];obtain⟨g,cs⟩:∃g,d.length+1=g+(b+2):=⟨d.length+1-(b+2),aa⟩;have ap:ay (ak i-ak s)=((g:X):Z):=(by simp only[bg];rw[cK aa aa];omega);refine ae.bs (y:=g) (by rw[ap];exact ij aa) ?_;have C:ag (i.drop g)<ag f*2^a:=(by have h:=oD i g aa;have w:=e7 (S.take g);rw[Q] at h;have x:ag d*2^a<aV d.length*2^a:=aj7 (g5 l) D;have H:aV d.length=aV g*aV (b+1):=(by rw[<-tw];congr 1;omega);have v:aV g*ag (i.drop g)<aV g*(aV (b+1)*2^a):=(by rw[<-Int.mul_assoc,<-H];omega);have z:=ajp v (ahy (fQ g));have ek:aV (b+1)*2^a<=aV (b+1)*2147483648:=akd (vb T) (ahy (fQ _));omega);refine ae.aK (P:=λad=>∃c e,ad=(c,e,())/\c.length=g/\aQ c/\e.length=d.length+1/\aQ e/\ag e+ag f*2^a*ag c=ag d*2^a/\ag e<ag f*2^a) (T1 uV M U d0 c1 aa S Q dl cs aa C λc e h w x H v z=>⟨c,e,bn,h,w,x,H,v,z⟩) ?_;rintro _ ⟨c,e,rfl,ax,d4,fs,G,v,z⟩;have av:ak s=((b+2:X):Z):=(by simp only[bg];omega);dsimp only;rw[av];refine ae.bs (EV aa) ?_;have c2:=e7 G;have ds:ag (e.take (b+2))=ag e:=by
  have h:=oD e (b+2) aa;have w:=e7 (G.drop (b+2));have x:=e7 (G.take (b+2));rcases i7 0 (ag (e.drop (b+2))) with j|j
  ·exfalso;have:=jW (aa:1<=ag (e.drop (b+2))) (fr (fQ (b+2)));omega
  rw[(aa:ag (e.drop (b+2))=0)] at h;omega
 have L:ag e=2^a*(ag d-ag f*ag c):=(by have d8:ag f*2^a*ag c=2^a*(ag f*ag c):=(by grind);have d9:2^a*(ag d-ag f*ag c)=2^a*ag d-2^a*(ag f*ag c):=Int.mul_sub ..;rw[kR (ag d)] at v;omega);have bx:0<=ag d-ag f*ag c:=by
  rcases i7 (ag d-ag f*ag c) 0 with j|j
  ·have:=amk D j;omega
  exact j
 have ce:ag d-ag f*ag c<ag f:=(by have:2^a*(ag d-ag f*ag c)<2^a*ag f:=(by rw[<-L,aig (2^a)];exact z);exact ajp this (ahy D));have ci:ag e/2^a=ag d-ag f*ag c:=(by rw[L];exact aml _ aa);obtain⟨a3,f2⟩:=ED (A:=ag d) (B:=ag f) (q:=ag c) (r:=ag d-ag f*ag c) I aa bx ce;refine ae.bs (oB ((G.take _).drop _) (by simp;omega)) ?_;have a0:iv (ak7 0 (e.take (b+2)))=eS (ag e).toNat:=(by rw[List.drop_zero,iv,ds]);dsimp only;rw[a0];refine ae.bs (Ma (ob _) (w4 _) ?_ aa) ?_
 ·have:=q5 (n:=(ag e).toNat) (k:=b+2) aa;omega
 dsimp only;refine ae.bs (oB d4 aa) (bu.2 ?_);show(iv c,_,())=_;rw[uH c2,ci,a3,f2,iv]
def Mr (a:X):eS (a:Z).toNat=eS a:=by rw[fA]
theorem zF (b:aL c<=32*a):(eS c).length<=a:=by refine q5 ?_;grind [qt,xL,gp]
theorem BE:fE b e>=0↔e<=b:=by grind [fE]
theorem LI:fE b e<0↔b<e:=by grind [fE]
def A1 (a:pq):Prop:=aQ a.2.1/\e5 a.2.1/\a.2.1.length<=100000
def hU {z:Z} (a:aL z.natAbs<=3000000):A1 (aT z):=⟨ms z,Dl z,zF aa⟩
theorem pn (a:aQ d) (b:e5 d) (e:d.length<=1000000):iD (d,())=Y (d,()):=by have c:=e5.eq a b;rw[oB a aa];show Y (eS (ag d).toNat,())=_;grind
theorem sd {neg:bA} {x:Z} (a:0<=x) (b:(eS x.toNat).length<=100000000):lY (neg,eS x.toNat,())=Y (aT (if neg then-x else x),()):=by grind [uH,wi,ob,hl]
theorem Ul {x y:X} {k:X} (a:(eS x).length<=k) (b:(eS y).length<=k):(eS (x+y)).length<=k+1:=by refine q5 ?_;have c:=Mq x;have d:=Mq y;have e:=pf a;have f:=pf b;grind [hZ,fQ]
def AT {l:ahc} (d:aQ l) (c:l.length<=a) (g:b<=ag l):(eS b.toNat).length<=a:=by refine q5 ?_;have e:=g5 d;have f:=pf c;have:=fQ a;omega
theorem KS {a b:pq} (t:A1 a) (u:A1 b):uk (a,b,())=Y (aT (hl a+hl b),()):=by
 obtain⟨j,a,_⟩:=a;obtain⟨k,b,_⟩:=b;obtain⟨c,g,r⟩:=t;obtain⟨d,h,s⟩:=u;dsimp only at c g r d h s;have x:=e7 c;have y:=e7 d;have ax:=g5 c;have z:=g5 d;have A:=pf (m:=a.length) (n:=100000) r;have B:=pf (m:=b.length) (n:=100000) s;have C:=fQ 100000;have w:∀e:Z,e<=ag a+ag b->(eS e.toNat).length<=100000001:=λe v=>(by have:(eS e.toNat).length<=100001:=(by refine q5 ?_;grind [hZ]);omega);have q:∀e:Z,e<=ag a+ag b->(eS e.toNat).length<=100000000:=λe v=>(by have:(eS e.toNat).length<=100001:=(by refine q5 ?_;grind [hZ]);omega);unfold uk;dsimp only;refine ah (pn c g aa) (ah (pn d h aa) ?_);dsimp only;cases i:(j==k) with
 |true=>
  have i:j=k:=(by grind);subst i;refine ah (Pw c d aa aa) (ah (sd aa (q _ aa)) ?_);grind [hl]
 |false=>
  have i:j=!k:=(by cases j<;>cases k<;>simp at i|-);refine ah (Gf c d g h aa aa) ?_;dsimp only;rw[cQ];split
  ·rename_i l;have p:ag b<=ag a:=BE.1 l;have o:b.length<=a.length:=by
    rcases cS a.length b.length with f|f
    ·have:=qp c d h f;omega
    omega
   refine ah (N2 c d aa o p) (ah (sd aa (q _ aa)) ?_);grind [hl]
  rename_i l;have p:ag a<ag b:=Int.not_le.1 (mt BE.2 l);have o:a.length<=b.length:=by
   rcases cS b.length a.length with f|f
   ·have:=qp d c g f;omega
   omega
  refine ah (N2 d c aa o (fr p)) (ah (sd aa (q _ aa)) ?_);grind [hl]
def KR {x y:Z} (a:aL x.natAbs<=3000000) (b:aL y.natAbs<=3000000):uk (aT x,aT y,())=Y (aT (x+y),()):=by rw[KS (hU a) (hU b),oC,oC]
theorem ac1 {x y:Z} (b:aL x.natAbs<=3000000) (c:aL y.natAbs<=3000000):B3 (aT x,aT y,())=Y (aT (x-y),()):=by unfold B3;have a:A1 ((!(aT y).1,(aT y).2):pq):=⟨ms y,Dl y,(hU c).2.2⟩;refine ah (KS (hU b) a) ?_;rw[oC];have d:hl ((!(aT y).1,(aT y).2):pq)=-y:=(by have:=Ff (aT y).1 (aT y).2.1;have e:=oC y;grind);grind
theorem Xo (f:aL b.natAbs<=3000000) (g:aL e.natAbs<=3000000):B1 (aT b,aT e,())=Y (aT (b*e),()):=by
 unfold B1;dsimp only;obtain⟨a,h,l⟩:=hU f;obtain⟨c,i,m⟩:=hU g;refine ah (pn a h aa) (ah (pn c i aa) ?_);dsimp only;refine ah (adn a c aa aa) ?_;rw[iq,iq,<-ajI,Mr];dsimp only;have n:(eS (b.natAbs*e.natAbs)).length<=100000000:=(by have:(eS (b.natAbs*e.natAbs)).length<=200000:=(by refine zF ?_;have:=Bz f g;omega);omega);have d:=sd (neg:=!((aT b).1==(aT e).1)) (x:=((b.natAbs*e.natAbs:X):Z)) aa (by grind);rw[Mr] at d;refine ah d ?_;dsimp only;congr 3;show(if(!(br (b<0)==br (e<0)))=bp then _ else _)=_;rw[ajI];rcases aif b 0 with j|j<;>rcases aif e 0 with k|k
 ·grind
 ·grind
 ·grind
 grind
theorem LJ {x y:Z} (i:aL x.natAbs<=900000) (l:aL y.natAbs<=900000):yZ (aT x,aT y,())=Y (fE x y,()):=by
 obtain⟨c,d,m⟩:=hU (z:=x) aa;obtain⟨e,f,n⟩:=hU (z:=y) aa;unfold yZ;refine ah (th (jO aa)) (ah (th (jO aa)) ?_);dsimp only;rw[cQ,cQ];have h:∀a:Z,a<0/\gA a=-1\/a=0/\gA a=0\/0<a/\gA a=1:=λa=>(by grind [gA]);split
 ·rename_i o;unfold fE;grind
 split
 ·rename_i j k;unfold fE;grind
 rename_i j k;have p:gA x=gA y:=aa;refine ah (pn c d aa) (ah (pn e f aa) ?_);dsimp only;refine ah (Gf c e d f aa aa) ?_;rw[iq,iq];dsimp only;have i:=h x;have l:=h y;have:gA x*fE (x.natAbs:Z) (y.natAbs:Z)=fE x y:=by
  rcases i with⟨g,b⟩|⟨g,b⟩|⟨g,b⟩<;>rw[b]
  ·unfold fE;omega
  ·rw[oI];unfold fE;omega
  grind
 grind [cK,fE]
def Xq (b:Z) (a:X):(b.natAbs:Z)*2^a=((b.natAbs*2^a:X):Z):=by simp
theorem yD:aL (a*2^c)<=aL a+c:=by
 rcases n0 a with b|b
 ·grind
 simp_all [oY,bd]
theorem acB (i:aL b.natAbs<=1900000) (h:a<=1048576):qX (aT b,(a:Z),())=Y (aT (b*2^a),0,()):=by obtain⟨c,d,f⟩:=hU (z:=b) aa;unfold qX;dsimp only;rw[aF (aa:¬((a:Z)< -1048576)),aF (aa:¬((a:Z)>1048576))];refine ah bn (ah (pn c d aa) ?_);dsimp only;rw[aH (aa:(a:Z)>=0)];refine ah (J7 c aa aa) ?_;rw[iq,Xq];have g:(eS (b.natAbs*2^a)).length<=100000:=zF (by grind [yD]);have e:=sd (neg:=(aT b).1) (x:=((b.natAbs*2^a:X):Z)) aa (by grind);refine ah e ?_;dsimp only;congr 3;show(if br (b<0)=bp then _ else _)=_;grind
theorem Ok {m:Z} (a:0<b) (d:0<=m):-m/b=if m %b=0 then-(m/b) else-(m/b+1):=by
 have e:=lO m b;have f:=nV m (aa:b≠0);have g:=pu m a;split
 ·rename_i c;refine(ED (A:=-m) (B:=b) (q:=-(m/b)) (r:=0) a ?_ (aiW _) a).1;grind
 rename_i c;refine(ED (A:=-m) (B:=b) (q:=-(m/b+1)) (r:=b-m %b) a ?_ aa aa).1;grind
theorem acA (u:aL b.natAbs<=1900000) (q:a<=1048576) (r:0<a):qX (aT b,-(a:Z),())=Y (aT (b/2^a),0,()):=by
 obtain⟨e,f,g⟩:=hU (z:=b) aa;have i:=jT a;unfold qX;dsimp only;rw[aF (aa:¬(-(a:Z)< -1048576)),aF (aa:¬(-(a:Z)>1048576))];refine ah bn (ah (pn e f aa) ?_);dsimp only;rw[aF (aa:¬(-(a:Z)>=0))];have ao:ay (0- -(a:Z))=(a:Z):=(by grind [cK]);rw[ao];refine ah (Ma e f aa aa) ?_;rw[iq];have s:0<=(b.natAbs:Z)/2^a:=ah7 aa aa;have j:(b.natAbs:Z)/2^a<=b.natAbs:=ajq _ aa;have h:∀d:Z,d<=b.natAbs->(eS d.toNat).length<=100000:=λd t=>AT (l:=(aT b).2.1) e g (by grind [iq]);have p:(eS ((b.natAbs:Z)/2^a+1).toNat).length<=100001:=(by have n:=Ul (x:=((b.natAbs:Z)/2^a).toNat) (y:=1) (k:=100000) (h _ j) ab;grind);dsimp only;refine ah (y:=(eS (if b<0/\(b.natAbs:Z) %2^a≠0 then(b.natAbs:Z)/2^a+1 else(b.natAbs:Z)/2^a).toNat,(bq,([],())),())) ?_ ?_
 ·refine ah (y:=(br (b<0/\(b.natAbs:Z) %2^a≠0),(bq,([],())),())) ?_ ?_
  ·show(bif br (b<0)==bp then _ else _)=_;by_cases c:b<0
   ·simp[c]
   grind
  dsimp only;by_cases c:b<0/\(b.natAbs:Z) %2^a≠0
  ·rw[aH c,au c];refine ah (Pw (ob _) (aQ.cons.2 ⟨ab,aQ.nil⟩) (by grind) ac) ?_;grind [uH,ag]
  grind
 dsimp only;refine ah (sd ?_ ?_) ?_
 ·omega
 ·grind
 dsimp only;congr 3;show(if br (b<0)=bp then _ else _)=_;by_cases c:b<0
 ·rw[au (aH c)];have o:=Ok (m:=b.natAbs) i aa;grind
 grind
theorem T4 {x y:Z} (u:aL x.natAbs<=1900000) (w:aL y.natAbs<=1900000) (v:0<=x) (k:y≠0):BZ (aT x,aT y,())=Y (aT (x/y),aT (x %y),0,()):=by obtain⟨b,d,g⟩:=hU (z:=x) aa;obtain⟨c,e,h⟩:=hU (z:=y) aa;unfold BZ;dsimp only;refine ah (pn c e aa) ?_;dsimp only;have f:(aT y).2.1≠[]:=λi=>k (w2.1 i);rw[sW,aF f];refine ah (pn b d aa) ?_;dsimp only;refine ah (T3 b c d e aa aa f) ?_;rw[iq,iq];dsimp only;have m:(aT x).1=bq:=aF aa;have n:0<=(x.natAbs:Z)/(y.natAbs:Z):=ah7 aa aa;have s:(x.natAbs:Z)/(y.natAbs:Z)<=x.natAbs:=ajq _ aa;have o:0<=(x.natAbs:Z) %(y.natAbs:Z):=ajn _ aa;have t:(x.natAbs:Z) %(y.natAbs:Z)<(y.natAbs:Z):=ajm _ aa;have q:∀a:Z,a<=x.natAbs->(eS a.toNat).length<=100000:=λa p=>AT (l:=(aT x).2.1) b g (by grind [iq]);have r:∀a:Z,a<=y.natAbs->(eS a.toNat).length<=100000:=λa p=>AT (l:=(aT y).2.1) c h (by grind [iq]);rw[m];refine ah bn ?_;dsimp only;refine ah (sd n (by grind)) (ah (sd o (by grind)) ?_);dsimp only;have ao:(x.natAbs:Z)=x:=aa;rw[ao];have j:x %(y.natAbs:Z)=x %y:=(by grind [amm,aif]);rw[j];congr 3;show(if(!(bq==br (y<0)))=bp then _ else _)=_;grind [aF,aH,amn,aif]
theorem DA {n:Z} (c:-9223372036854775808<=n) (d:n<=9223372036854775807):um (n,())=Y (aT n,()):=by
 unfold um;dsimp only;obtain⟨a,e,b,f⟩:∃a:Z,a=n.natAbs/\0<=a/\a<=9223372036854775808:=⟨_,bn,aa,aa⟩;refine ah (y:=(a,(bq,([],())),())) ?_ ?_
 ·rw[cQ];grind [rL]
 dsimp only;rw[m7,bN,rn b aa,la (x:=a/4294967296) aa aa];refine ah (wi (aQ.cons.2 ⟨⟨aa,aa⟩,aQ.cons.2 ⟨⟨aa,aa⟩,aQ.nil⟩⟩) ac) ?_;grind [ag,hl]
theorem V5 (c:aQ d) (s:d.length<=2) {e:cJ->Prop} (q:e (ag d,())):ae (loop (σ:=nr) (ρ:=cJ) (λ(j,b,_)=>
 bif br (b<ak d) then
 (al d b).bind λo=>
 (h6 bC (aJ o) (ay (32*b))).bind λp=>
 Y (.inl (fN bC j p,aP b,())) else
 Y (.inr (j,()))) (0,0,())) e:=by
 refine ae.steps d.length (λa n=>n=(ag (d.take a),(a:Z),())) rfl ?_ ?_
 ·rintro a _ g rfl;have i:=c.get g;simp only[aH (show(a:Z)<ak d by grind),bG,eY g,aC];have k:=e7 (c.take a);have f:=g5 (c.take a);rw[gh,h1 aa,qt] at f;have ao:ay (32*(a:Z))=((32*a:X):Z):=(by grind [cK]);have l:(2:Z)^(32*a)<=4294967296:=by
   rcases(aa:a=0\/a=1) with rfl|rfl<;>decide
  have m:=jT (32*a);have r:d[a]*2^(32*a)<4294967296*4294967296:=(by have:=jW l i.1;omega);have h:0<=d[a]*2^(32*a):=nc i.1 (fr m);rw[ao,fo (x:=d[a]) aa aa,nR aa aa,aC,fA,rR h aa,m3 (32*a) k f h aa aa (aj8 _ _),bk aa];grind [iw,qt,aig,bu]
 rintro _ rfl;simp_all [bu,fK,bd,aF,bg,bO,ak]
theorem V6 {z:Z} (h:0<=z) (c:z<9223372036854775808):B0 (aT z,())=Y (z,bp,()):=by have i:aL z.natAbs<=64:=gp.2 aa;obtain⟨a,b,g⟩:=hU (z:=z) aa;have d:(aT z).2.1.length<=2:=zF aa;unfold B0;dsimp only;refine bP.1 ?_;refine ae.bs (pn a b aa) ?_;dsimp only;rw[aF (show¬(ak (aT z).2.1>2) by grind),bO];refine ae.aK (P:=λf=>f=(z,())) (V5 a d (by grind [iq])) ?_;rintro _ rfl;have e:(aT z).1=bq:=aF aa;dsimp only;rw[e];refine ae.bs (y:=.inr (z,bp,())) ?_ (bu.2 bn);refine ah bn ?_;dsimp only[bO];rw[aH (show z<9223372036854775808 from c)];refine ah bn ?_;dsimp only[bG];grind [cK]
theorem EQ (p:aQ d) (q:d.length<=100000000):mq (d,())=Y (iv d,()):=by
 unfold mq;refine bP.1 ?_;refine ae.aK (P:=λh=>∃a:X,h.1=(a:Z)/\a<=d.length/\(∀b,a<=b->(k:b<d.length)->d[b]=0)/\e5 (d.take a)) ?_ ?_
 ·refine ahx (λe=>∃a:X,e.1=(a:Z)/\a<=d.length/\(∀b,a<=b->(k:b<d.length)->d[b]=0)) (λe=>e.1.toNat) ⟨d.length,bn,bd _,λb f g=>by omega⟩ ?_;rintro⟨_,_⟩ ⟨a,rfl,f,g⟩;rcases a with _|a
  ·refine bu.2 ⟨0,bn,c8 _,g,λm l=>by grind⟩
  have ao:ay (((a+1:X):Z)-1)=(a:Z):=(by grind [cK]);have j:br (((a+1:X):Z)>0)=bp:=aH aa;simp only[ao,j,ahM,bG,eY (show a<d.length from f),aC];by_cases i:d[a]=0
  ·rw[gH,aH i];grind [cl,bu]
  rw[gH,aF i];refine bu.2 ⟨a+1,bn,f,g,λm l=>?_⟩;grind
 rintro⟨_,_⟩ ⟨a,rfl,f,g,n⟩;dsimp only;refine ae.aK (P:=λh=>h=(d.take a,())) ?_ ?_
 ·refine ae.steps a (λc e=>e=((c:Z),d.take c,())) rfl ?_ ?_
  ·rintro c _ o rfl;simp only[aH (aa:(c:Z)<(a:Z)),bG,eY (aa:c<d.length),aC];grind [ct,bR,bu,eB,bk]
  rintro _ rfl;simp_all [bu,aF,bO]
 grind [bu,Q2]
theorem AG (c:aQ d) (e:d.length<=100000000):lZ (h,d,())=Y (aT (hl (h,d,())),()):=by
 unfold lZ;refine ah (EQ c e) ?_;have a:=Mn (neg:=h) (J1 d) (Q1 d);have b:hl (h,iv d,())=hl (h,d,()):=(by grind [J2,hl]);rw[<-b,<-a];dsimp only;cases h
 ·simp
 simp_all [ahM,bG,ajd,cu,bg,ym]
theorem tc (a:aQ d) (c:d.length<=100000000) (e:ag d=b):lZ (h,d,())=Y (aT (if h then-b else b),()):=by grind [AG,hl]
theorem te {l:ahc} (a:aQ l) (b:e5 l) (d:l.length<=1000000):mq (l,())=Y (l,()):=by have c:=e5.eq a b;rw[EQ a aa];show Y (eS (ag l).toNat,())=_;grind
def P1 {a:pq} (b:aQ a.2.1) (c:a.2.1.length<=100000000):pX (a,())=Y (aT (hl a),()):=by unfold pX;exact ah (AG b c) rfl
def xS (a:aL b.natAbs<=3000000):pX (aT b,())=Y (aT b,()):=by rw[P1 (ms b) (by have:=(hU a).2.2;omega),oC]
theorem P0 (a:aL b.natAbs<=3000000):zi (aT b,())=Y (aT (-b),()):=by unfold zi;refine ah (AG (ms b) (by have:=(hU a).2.2;omega)) ?_;grind [oC,Ff]
theorem Aw (a:aL b.natAbs<=3000000):qY (aT b,())=Y (aT b.natAbs,()):=by unfold qY;refine ah (AG (ms b) (by have:=(hU a).2.2;omega)) ?_;grind [oC,Rf,ms]
theorem lF {z:Z} (a:aL z.natAbs<=3000000):mY (aT z,())=Y (gA z,()):=by
 unfold mY;refine ah (xS a) ?_;simp only[sW,cQ,w2];unfold gA;split
 ·rfl
 show(bif br (z<0) then _ else _)=_;grind
theorem Ax {z:Z} (d:aL z.natAbs<=3000000):ux (aT z,())=Y ((aL z.natAbs:Z),()):=by obtain⟨a,b,e⟩:=hU d;have c:=NE a b aa;rw[iq] at c;unfold y3 at c;unfold ux;refine ah (te a b aa) ?_;grind
theorem Qg (v:aL b.natAbs<=900000) (s:b≠0):qZ (aT b,())=Y ((cN b.natAbs:Z),()):=by
 obtain⟨e,i,r⟩:=hU (z:=b) aa;unfold qZ;refine ah (te e i aa) ?_;have u:=iq b;dsimp only;generalize(aT b).2.1=a at*;have m:b.natAbs=(ag a).toNat:=aa;rw[m];refine bP.1 (ae.aK (P:=λo=>match o with|.inl _=>b5|.inr p=>p=((cN (ag a).toNat:Z),())) ?_ ?_)
 ·refine ae.steps a.length (λc q=>q=((c:Z),())/\ag (a.take c)=0) ⟨bn,bn⟩ ?_ ?_
  ·rintro c _ f ⟨rfl,j⟩;have h:=e.get f;simp only[aH (show(c:Z)<ak a by grind),bG,eY f,aC,gb];by_cases d:a[c]=0
   ·simp only[aH d,gT,bO];grind [iw,bu,bk]
   simp only[aF d,me,bG];have k:=Ra (x:=0) j f e d;rw[k];obtain⟨g,l⟩:=gg h.1;rw[l] at h d|-;have t:cN g<32:=je (rI aa) (gp.2 aa);refine ae.of_eq (ah (Q9 (n:=g) aa aa) rfl) ?_;grind [cK]
  grind
 grind [bu]
theorem PF {n:X} (c:n<=1000000000):∃b a:X,n=32*b+a/\a<32/\km bK (n:Z) 32=Y (b:Z)/\i4 (n:Z) 32=Y (a:Z):=by
 refine⟨n/32,n %32,aa,aa,?_,?_⟩
 ·unfold km;rw[au ab,Fp aa,cq aa aa];simp
 simp_all [au,Fq,i4]
theorem Jw {n:X} (u:aQ d) (I:d.length<=10000000) (E:n<=100000000):ae (wQ (d,(n:Z),())) (λl=>∃a,l=(a,())/\aQ a/\ag a=ag d*2^n/\a.length=n/32+d.length+1):=by
 unfold wQ;obtain⟨g,b,H,F,v,w⟩:=PF (n:=n) aa;have j:=jT b;have A:=va (p:=b) aa;have z:(2:Z)^b<=2147483648:=vb aa;dsimp only;refine ae.bs v (ae.bs (ij aa) ?_);refine ae.aK (P:=λl=>∃c a,l=(c,a,())/\a.length=g+d.length/\aQ a/\0<=c/\c<2^b/\ag a+aV (g+d.length)*c=aV g*(2^b*ag d)) ?_ ?_
 ·refine ae.steps d.length (λe y=>∃c a,y=(c,(e:Z),a,())/\a.length=g+e/\aQ a/\0<=c/\c<2^b/\ag a+aV (g+e)*c=aV g*(2^b*ag (d.take e))) ⟨0,bJ g 0,bn,ac,aQ.lL _,aa,j,by simp[ag,po]⟩ ?_ ?_
  ·rintro e _ m ⟨c,a,rfl,ax,h,i,q,k⟩;have o:=u.get m;simp only[aH (show(e:Z)<ak d by grind),bG,eY m,aC,w];have C:d[e]*2^b<4294967296*2^b:=rS o.2 j;have B:d[e]*2^b<=4294967295*2^b:=nb aa aa;have D:0<=d[e]*2^b:=nc o.1 (fr j);obtain⟨f,G,J,K,L⟩:∃f,f=c+d[e]*2^b/\0<=f/\f<18446744073709551616/\f<4294967296*2^b:=⟨_,bn,aa,aa,aa⟩;have r:h6 bC (aJ d[e]) (b:Z)=Y (d[e]*2^b):=by
    rw[fo (x:=d[e]) aa aa,nR aa aa,fA];congr 1;omega
   have s:fN bC c (d[e]*2^b)=f:=(by grind [m3,aj8]);have t:f/4294967296<2^b:=rQ ab aa;rw[r,aC,s,eB (by grind),m7,pp];refine bu.2 ⟨f/4294967296,a++[f %4294967296],by rw[bk aa],by grind,h.snoc aa aa,aa,t,?_⟩;grind [tw,aiy,qq,hZ,iw]
  rintro _ ⟨c,a,rfl,ax,h,i,q,k⟩;simp only[aF (show¬((d.length:Z)<ak d) by grind),bO];rw[fK (bd _)] at k;grind [bu]
 rintro _ ⟨c,a,rfl,ax,h,i,q,k⟩;dsimp only;rw[la i aa,eB (by grind)];refine bu.2 ⟨a++[c],bn,h.snoc i aa,?_,by grind⟩;grind [qq,qt,amo]
theorem PJ (g:aQ d) (h:aQ f) (o:e5 d) (p:e5 f) (t:d.length<=10000000) (u:f.length<=10000000):zj (d,f,())=Y (fE (ag d) (ag f),()):=by
 unfold zj;refine bP.1 ?_;simp only[gb,bg];by_cases s:d.length=f.length
 ·rw[aH (aa:(d.length:Z)=f.length)];simp only[gT,bO];refine ae.aK (P:=λl=>match l with|.inl _=>ag d=ag f|.inr m=>m=(fE (ag d) (ag f),())) ?_ ?_
  ·refine ae.steps d.length (λb n=>n=(((d.length:X):Z)-1-b,())/\ag (d.drop (d.length-b))=ag (f.drop (d.length-b))) ⟨?_,?_⟩ ?_ ?_
   ·grind [cK]
   ·rw[nX aa,nX aa]
   ·rintro b _ q ⟨rfl,e⟩;obtain⟨a,r⟩:∃a,d.length=a+1+b:=⟨d.length-1-b,aa⟩;have ao:((d.length:X):Z)-1-(b:Z)=(a:Z):=aa;have i:a<d.length:=aa;have j:a<f.length:=aa;rw[(aa:d.length-b=a+1)] at e;simp only[ao,aH (aa:(a:Z)>=0),bG,eY i,eY j,aC];by_cases k:d[a]=f[a]
    ·simp only[aH k,gT,bO];grind [mK,cK,bu]
    simp only[aF k,me,bG];rw[cQ];refine ae.ite (λc=>?_) λc=>?_
    ·refine bu.2 ?_;show((-1:Z),())=_;unfold fE;rw[au (Fg g h i j e c)]
    refine bu.2 ?_;show((1:Z),())=_;have:=Fg h g j i e.symm aa;grind [fE]
   rintro _ ⟨rfl,e⟩;have ao:¬(((d.length:X):Z)-1-(d.length:Z)>=0):=aa;simp_all [bu,aF,bO]
  grind [bu,fE,ag]
 rw[aF (aa:¬(d.length:Z)=f.length)];simp only[me,bG];rw[cQ];unfold fE;refine ae.ite (λc=>bu.2 ?_) λc=>bu.2 ?_
 ·rw[au (qp g h p aa)]
 have:=qp h g o aa;grind
theorem WH (k:aQ d) (v:j<32) (u:c+a<d.length) (t:b=ag (d.drop c)):b/2^j/aV a %4294967296=(d[c+a]+4294967296*d.getD (c+a+1) 0)/2^j %4294967296:=by
 have q:=jT j;have s:=va (p:=j) aa;have r:b/aV a=(d[c+a]+4294967296*d.getD (c+a+1) 0)+4294967296*(4294967296*ag (d.drop (c+a+2))):=by
  have h:d.drop c=(d.drop c).take a++d.drop (c+a):=(by grind [ai1,aiK]);have g:b=ag ((d.drop c).take a)+aV a*ag (d.drop (c+a)):=(by grind [l9,aho,akM,aix]);have m:=e7 ((k.drop c).take a);have i:=g5 ((k.drop c).take a);rw[gh,nf,h1 aa] at i;have n:ag (d.drop (c+a))=d[c+a]+4294967296*ag (d.drop (c+a+1)):=mK aa;have o:ag (d.drop (c+a+1))=d.getD (c+a+1) 0+4294967296*ag (d.drop (c+a+2)):=by
   rcases cS (c+a+1) d.length with f|f
   ·grind [mK,jv]
   rw[o7 f,nX f,nX aa];rfl
  rw[g,vK _ _ aa,pt m i,n,o];grind
 have h:b/2^j/aV a=b/aV a/2^j:=(by rw[tB (fr q),tB (fr (fQ a)),kR]);rw[h,r];generalize d[c+a]+4294967296*d.getD (c+a+1) 0=l;have g:∀e:Z,l+4294967296*(4294967296*e)=l+2^j*(4294967296*(2^(32-j)*e)):=λe=>(by grind);rw[g,vK _ _ aa,yg]
theorem WP (e:aQ d) (l:c<32) (j:a<d.length):(br (ag d %(aV a*2^c)≠0))=(br (ag (d.take a)≠0)||br (d[a] %2^c≠0)):=by have h:=jT c;have k:=va (p:=c) aa;have i:=e7 (e.take a);have f:=g5 (e.take a);rw[gh,h1 aa] at f;have g:=NP (x:=ag (d.take a)) (b:=aV a) (y:=ag (d.drop a)) (P:=2^c) (P':=0) (fQ a) ⟨i,f⟩ h;rw[<-oD d a aa] at g;simp_all [mK,jV,yg,ag]
theorem Jx {a:ahc} {n:X} (f:aQ a) (bl:a.length<=10000000) (a0:n<=1000000000):ae (wR (a,(n:Z),())) (λh=>∃e,h=(e,br (ag a %2^n≠0),())/\aQ e/\ag e=ag a/2^n/\e.length<=a.length):=by
 unfold wR;obtain⟨b,d,R,C,o,O⟩:=PF (n:=n) aa;have y:=jT d;have am:=va (p:=d) aa;have V:(2:Z)^d<=2147483648:=vb aa;have K:(2:Z)^n=aV b*2^d:=(by rw[qt,R,amo]);have E:=e7 f;dsimp only;refine ae.aK (P:=λh=>h=(br (ag (a.take b)≠0),())) ?_ ?_
 ·have a4:∀c,min b a.length=c->br (ag (a.take b)≠0)=br (ag (a.take c)≠0):=λc s=>by
   grind
  refine ae.steps (min b a.length) (λc m=>m=(br (ag (a.take c)≠0),(c:Z),())) (by simp[ag]) ?_ ?_
  ·rintro c _ s rfl;have q:=f.get (n:=c) aa;simp only[o,aC,aH (aa:(c:Z)<(b:Z)),ahM,bG,aH (show(c:Z)<ak a by grind),eY (aa:c<a.length),bk (aa:c<9223372036854775807),gb];have v:ag (a.take (c+1))=ag (a.take c)+aV c*a[c]:=iw aa;have ad:=e7 (f.take c);have w:=fQ c;by_cases i:ag (a.take c)=0
   ·rw[aF (show¬(ag (a.take c)≠0) fromλk=>k i)];refine bu.2 ?_;show((!br (a[c]=0)),_,())=_;congr 1;rw[v,i];by_cases U:a[c]=0
    ·grind
    have:=rT w (aa:0<a[c]);grind
   rw[aH (show ag (a.take c)≠0 from i)];refine bu.2 ?_;show(bp,_,())=_;congr 1;have:=nc (fr w) q.1;grind
  rintro _ rfl;simp only[o,aC];by_cases i:min b a.length<b
  ·simp only[aH (aa:((min b a.length:X):Z)<(b:Z)),ahM,bG,aF (show¬(((min b a.length:X):Z)<ak a) by grind),bO,aC];grind [bu]
  simp only[aF (aa:¬(((min b a.length:X):Z)<(b:Z))),show(bq==bp)=bq from rfl,bO,aC];grind [bu]
 rintro _ rfl;dsimp only;refine ae.bs O (ae.bs o ?_);rw[K];rcases cl b a.length with k|k
 ·obtain⟨g,z⟩:∃g,g=ag (a.drop b):=⟨_,bn⟩;have A:0<=g:=(by rw[z];exact e7 (f.drop b));have Q:ag a=ag (a.take b)+aV b*g:=(by grind [oD]);have N:=e7 (f.take b);have B:=g5 (f.take b);rw[gh,h1 aa] at B;have an:ag a/(aV b*2^d)=g/2^d:=by
   rw[<-tB (fr (fQ b)),Q,vK _ _ aa,pt N B,aiz]
  obtain⟨l,av⟩:∃l,a.length=b+l:=⟨a.length-b,aa⟩;have ap:g<aV l:=(by have:=g5 (f.drop b);grind);have J:=WP f C k;refine ae.aK (P:=λh=>∃e,h=(br (ag a %(aV b*2^d)≠0),e,())/\e.length=l/\aQ e/\ag e=g/2^d) ?_ ?_
  ·refine ae.steps l (λc m=>∃e,m=(if c=0 then br (ag (a.take b)≠0) else br (ag a %(aV b*2^d)≠0),((b+c:X):Z),e,())/\e.length=c/\aQ e/\ag e+aV c*(g/2^d/aV c)=g/2^d) ⟨[],bn,bn,aQ.nil,by simp[ag,x8]⟩ ?_ ?_
   ·rintro c _ s ⟨e,rfl,ax,t,F⟩;have q:=f.get (n:=b+c) aa;have S:=f.getD (b+c+1);obtain⟨j,D,T,bx⟩:∃j,j=a[b+c]+4294967296*a.getD (b+c+1) 0/\0<=j/\j<18446744073709551616:=⟨_,bn,aa,aa⟩;have L:g/2^d/aV c %4294967296=j/2^d %4294967296:=(by rw[D];exact WH f C aa z);have a3:0<=j/2^d:=ah7 T (ahy y);have G:aP ((b+c:X):Z)=((b+c+1:X):Z):=bk aa;dsimp only;rw[aY (aH (show((b+c:X):Z)<ak a by grind))];refine ae.aK (P:=λh=>h=(br (ag a %(aV b*2^d)≠0),e++[j/2^d %4294967296],())) ?_ ?_
    ·refine ae.bs (eY aa) ?_;refine ae.aK (P:=λh=>h=(j,e,())) ?_ ?_
     ·rw[G,cQ];refine ae.ite (λi=>?_) λi=>?_
      ·have i:b+c+1<a.length:=(by grind);rw[eY i,aC,fo (x:=a[b+c+1]) (by grind) (by grind),nR ab ab];rw[jv i] at D S;have H:a[b+c+1]*2^(32:Z).toNat %18446744073709551616=4294967296*a[b+c+1]:=by
        grind
       rw[aC,H,fo aa aa,m3 32 q.1 q.2 aa aa aa aa];grind [bu]
      grind [bg,o7,fo,bu]
     rintro _ rfl;dsimp only;refine ae.aK (P:=λh=>h=(br (ag a %(aV b*2^d)≠0),e,())) ?_ ?_
     ·refine ae.bs o ?_;by_cases M:c=0
      ·subst M;have r:(((b+0:X):Z)==(b:Z))=bp:=ac;rw[r];simp only[ahM,bG];refine ae.bs (eY aa) ?_;rw[Qv aa aa,aC,fA,ajk,rR aa aa,la aa aa,K1 d (f.get (n:=b+0) aa).1 (f.get (n:=b+0) aa).2 aa,gb,J];grind [aF,bu,aH]
      have r:(((b+c:X):Z)==(b:Z))=bq:=(by grind);rw[r];simp only[show(bq==bp)=bq from rfl,bO];simp_all [aw,bu]
     rintro _ rfl;dsimp only;rw[vl aa aa,bN,ahR,eB (by grind),pp];grind [bu]
    rintro _ rfl;dsimp only;refine bu.2 ⟨e++[j/2^d %4294967296],by grind,by grind,t.snoc aa aa,?_⟩;rw[qq,ax,<-L,hZ,aig 4294967296 (aV c),<-ame (ahy (fQ c))];grind
   rintro _ ⟨e,rfl,ax,t,F⟩;dsimp only;rw[a1 (aF (show¬(((b+l:X):Z)<ak a) by grind)),cf aa];refine bu.2 ⟨e,bn,ax,t,?_⟩;have u:0<=g/2^d:=ah7 A (ahy y);have I:g/2^d<=g:=ajq _ A;rw[Int.ediv_eq_zero_of_lt u aa] at F;omega
  grind [bu]
 have u:=g5 f;have I:=pf k;have v:aV b*1<=aV b*2^d:=jW aa (fr (fQ b));rw[pt E aa,rR E aa,fK k];refine ae.aK (P:=λh=>h=(br (ag a≠0),[],())) ?_ ?_
 ·refine ae.steps 0 (λc m=>m=(br (ag a≠0),(b:Z),[],())) rfl (λc m s=>by omega) ?_;rintro _ rfl;simp_all [bu,a1,aF,ak]
 rintro _ rfl;exact bu.2 ⟨[],bn,aQ.nil,bn,ac⟩
theorem abw (o:aQ d) (p:aQ f) (y:d.length<=10000000) (z:f.length<=10000000):ae (CQ (d,f,())) (λh=>∃a,h=(a,())/\aQ a/\ag a=ag d+ag f/\a.length<=d.length+f.length+1):=by
 unfold CQ;dsimp only;obtain⟨g,u⟩:∃g,g=max d.length f.length:=⟨_,bn⟩;have q:(if ak f>ak d then ak f else ak d)=(g:Z):=(by grind);rw[q];refine ae.aK (P:=λh=>∃b a,h=(b,a,())/\a.length=g/\aQ a/\0<=b/\b<=1/\ag a+aV g*b=ag d+ag f) ?_ ?_
 ·refine ae.steps g (λc r=>∃b a,r=(b,(c:Z),a,())/\a.length=c/\aQ a/\0<=b/\b<=1/\ag a+aV c*b=ag (d.take c)+ag (f.take c)) ⟨0,[],bn,bn,aQ.nil,aa,aa,by simp[ag]⟩ ?_ ?_
  ·rintro c _ t ⟨b,a,rfl,l,i,j,m,n⟩;have w:=o.getD c;have x:=p.getD c;obtain⟨e,v,A,B,s⟩:∃e,e=b+d.getD c 0+f.getD c 0/\0<=e/\e<18446744073709551616/\e/4294967296<=1:=⟨_,bn,aa,aa,aa⟩;dsimp only;rw[aY (aH (aa:(c:Z)<(g:Z)))];refine ae.aK (P:=λh=>h=(e/4294967296,a++[e %4294967296],())) ?_ ?_
   ·refine ae.aK (P:=λh=>h=(b+d.getD c 0,a,())) ?_ ?_
    ·simp only[cQ];refine ae.ite (λk=>?_) λk=>?_
     ·grind [fo,bu,jv,eY,bg]
     simp_all [o7,ajj,bu]
    rintro _ rfl;refine ae.aK (P:=λh=>h=(e,a,())) ?_ ?_
    ·simp only[cQ];refine ae.ite (λk=>?_) λk=>?_
     ·grind [fo,bu,jv,eY,bg]
     simp_all [o7,ajj,bu]
    grind [eB,pp,m7,bu]
   rintro _ rfl;dsimp only;refine bu.2 ⟨e/4294967296,a++[e %4294967296],by rw[bk aa],by grind,i.snoc aa aa,aa,s,?_⟩;rw[qq,l,hZ,x1,x1];grind
  rintro _ ⟨b,a,rfl,l,i,j,m,n⟩;dsimp only;rw[a1 (aF (aa:¬((g:Z)<(g:Z))))];grind [bu,ck]
 rintro _ ⟨b,a,rfl,l,i,j,m,n⟩;dsimp only;rw[eB (by grind),la j aa];refine bu.2 ⟨a++[b],bn,i.snoc j aa,?_,by grind⟩;grind [qq]
theorem Qw (a:Z):eM .u64 a 63=Y (a/9223372036854775808):=by have:eM .u64 a 63=Y (a.fdiv 9223372036854775808):=rfl;grind
theorem Qf (o:aQ d) (p:aQ f) (A:d.length<=10000000) (w:f.length<=d.length) (x:ag f<=ag d):ae (zk (d,f,())) (λg=>∃a,g=(a,())/\aQ a/\ag a=ag d-ag f/\a.length=d.length):=by
 unfold zk;dsimp only;refine ae.aK (P:=λg=>∃a b,g=(a,())/\a.length=d.length/\aQ a/\0<=b/\b<=1/\ag a-aV d.length*b=ag d-ag f) ?_ ?_
 ·refine ae.steps d.length (λc q=>∃b a,q=(b,(c:Z),a,())/\a.length=c/\aQ a/\0<=b/\b<=1/\ag a-aV c*b=ag (d.take c)-ag (f.take c)) ⟨0,[],bn,bn,aQ.nil,aa,aa,by simp[ag]⟩ ?_ ?_
  ·rintro c _ l ⟨b,a,rfl,h,i,j,k,m⟩;have y:=o.get l;have z:=p.getD c;obtain⟨e,v,r,s⟩:∃e,e=d[c]-b-f.getD c 0/\-4294967296<=e/\e<4294967296:=⟨_,bn,aa,aa⟩;dsimp only;rw[aY (aH (show(c:Z)<ak d by grind))];refine ae.aK (P:=λg=>g=(-(e/4294967296),a++[e %4294967296],())) ?_ ?_
   ·refine ae.bs (eY l) ?_;refine ae.aK (P:=λg=>g=(e %18446744073709551616,a,())) ?_ ?_
    ·simp_all [bg,o7,bu,rL,eY,jv,ae.ite,cQ]
    grind [eB,pp,Qw,bu]
   rintro _ rfl;dsimp only;refine bu.2 ⟨-(e/4294967296),a++[e %4294967296],by rw[bk aa],by grind,i.snoc aa aa,aa,aa,?_⟩;rw[qq,h,hZ,iw l,x1];grind
  rintro _ ⟨b,a,rfl,h,i,j,k,m⟩;dsimp only;rw[a1 (aF (show¬((d.length:Z)<ak d) by grind))];refine bu.2 ⟨a,b,bn,h,i,j,k,?_⟩;simp_all [ck,cc]
 rintro _ ⟨a,b,rfl,h,i,j,k,m⟩;have n:=g5 i;have t:=fQ d.length;rw[h] at n;have u:b=0:=(by grind);grind [bu]
theorem ace (y:aQ f) (q:a<f.length) (z:aQ d) (L:a+d.length<c) (J:c<=100000000) (w:g.length=c) (x:aQ g) (C:iP g (a+d.length)) {p:iO->Prop} (K:∀h b,b.length=c->aQ b->iP b (a+d.length)->0<=h->h<4294967296->ag b+aV (a+d.length)*h=ag g+aV a*(f[a]*ag d)->p (h,b,())):ae (loop (σ:=pL) (ρ:=iO) (λ(k,j,m,_)=>
 bif br (j<ak d) then
 (al f (a:Z)).bind λu=>
 (al d j).bind λs=>
 rd m (ay ((a:Z)+j)) λt=>
 wr m (ay ((a:Z)+j)) (db (aJ (aJ (k+aJ (aJ u*aJ s))+aJ t))) λI=>
 (eM bC (aJ (aJ (k+aJ (aJ u*aJ s))+aJ t)) 32).bind λH=>
 Y (.inl (H,aP j,I,())) else
 Y (.inr (k,m,()))) (0,0,g,())) p:=by
 refine ae.steps d.length (λe G=>∃h b,G=(h,(e:Z),b,())/\b.length=c/\aQ b/\iP b (a+d.length)/\0<=h/\h<4294967296/\ag b+aV (a+e)*h=ag g+aV a*(f[a]*ag (d.take e))) ⟨0,g,bn,w,x,C,aa,aa,by simp[ag]⟩ ?_ ?_
 ·rintro e _ l ⟨h,b,rfl,ax,o,r,D,E,F⟩;have A:=y.get q;have B:=z.get l;have N:=o.get (n:=a+e) aa;have M:=Ab A B;obtain⟨i,O,P,Q⟩:∃i,i=h+f[a]*d[e]+b[a+e]/\0<=i/\i<18446744073709551616:=⟨_,bn,aa,aa⟩;simp only[aH (show(e:Z)<ak d by grind),bG,eY l,eY q,aC];have ao:ay ((a:Z)+(e:Z))=((a+e:X):Z):=(by grind [cK]);rw[ao,lE aa];have v:aJ (aJ (h+aJ (aJ f[a]*aJ d[e]))+aJ b[a+e])=i:=by
   grind [fo]
  rw[v,pp,lI aa,m7];refine bu.2 ⟨i/4294967296,b.set (a+e) (i %4294967296),by rw[bk aa],by grind,o.set aa aa,r.JG _ aa,aa,aa,?_⟩;rw[mL aa,(aa:a+(e+1)=(a+e)+1),hZ,iw l];grind [tw,aiy]
 rintro _ ⟨h,b,rfl,ax,o,r,D,E,F⟩;simp_all [fK,bd,bu,aF,bg,bO,ak]
theorem ab3 (s:aQ f) (t:aQ d) (v:f.length<=10000000) (w:d.length<=10000000):ae (GI (f,d,())) (λg=>∃a,g=(a,())/\aQ a/\ag a=ag f*ag d/\a.length=f.length+d.length):=by
 unfold GI;dsimp only;have r:ay (ak f+ak d)=((f.length+d.length:X):Z):=(by grind [cK,bg]);rw[r,ij aa,bN];refine ae.aK (P:=λg=>∃a,g=(a,())/\a.length=f.length+d.length/\aQ a/\ag a=ag f*ag d) ?_ ?_
 ·refine ae.steps f.length (λb u=>∃a,u=((b:Z),a,())/\a.length=f.length+d.length/\aQ a/\iP a (b+d.length)/\ag a=ag (f.take b)*ag d) ⟨_,bn,ac,aQ.lL _,iP.lL _ _,by simp[ag,po]⟩ ?_ ?_
  ·rintro b _ m ⟨a,rfl,ax,o,p,q⟩;dsimp only;rw[aY (aH (show(b:Z)<ak f by grind))];refine ae.aK (P:=λg=>∃e c,g=(e,c,())/\c.length=f.length+d.length/\aQ c/\iP c (b+d.length)/\0<=e/\e<4294967296/\ag c+aV (b+d.length)*e=ag a+aV b*(f[b]*ag d)) (ace s m t aa aa ax o p λe c n k h i j l=>⟨e,c,bn,n,k,h,i,j,l⟩) ?_;rintro _ ⟨e,c,rfl,n,k,h,i,j,l⟩;have ao:ay ((b:Z)+ak d)=((b+d.length:X):Z):=(by grind [cK,bg]);dsimp only;rw[ao,la i j,lI aa];refine bu.2 ⟨c.set (b+d.length) e,by rw[bk aa],by grind,k.set i j,?_,?_⟩
   ·rw[(aa:b+1+d.length=b+d.length+1)];exact h.set _
   rw[mL aa,h _ (bd _) aa,iw m,aj6,l,q];grind
  rintro _ ⟨a,rfl,ax,o,p,q⟩;dsimp only;rw[a1 (aF (show¬((f.length:Z)<ak f) by grind))];grind [bu]
 grind [bu]
section
section
variable {α B:Type}
theorem Jm {d c e:bm α} {k:X} (g:k<c.length) (f:b=((d.length+k:X):Z)) (a:α->bv B):rd (d++(c++e)) b a=a c[k]:=by subst f;refine abI aa ?_ a;grind
theorem ad2 {a c d:bm α} {k:X} (g:k<c.length) (h:b=((a.length+k:X):Z)) (f:α) (e:bm α->bv B):wr (a++(c++d)) b f e=e (a++(c.set k f++d)):=by subst h;rw[lI (by grind),AM g]
end
theorem adk {A w C v:ahc} {g:Z} (u:aQ v) (x:aQ w) (V:w.length=v.length+1) (O:A.length+w.length<=100000000) (H:0<=g/\g<4294967296):ae (CR (A++(w++C),v,(A.length:Z),g,())) (λd=>(ag w<g*ag v/\d=(A++(w++C),bq,()))\/(∃l,g*ag v<=ag w/\d=(A++(l++C),bp,())/\l.length=w.length/\aQ l/\ag l=ag w-g*ag v)):=by
 unfold CR;dsimp only;have y:aP (ak v)=((v.length+1:X):Z):=(by grind [bk,bg]);rw[y,ij aa,bN];have R:=e7 u;have Q:=e7 x;refine ae.aK (P:=λd=>∃c b,d=(c,A++(w++C),b,())/\b.length=v.length+1/\aQ b/\0<=c/\c<=1/\ag b-aV (v.length+1)*c=ag w-g*ag v) ?_ ?_
 ·refine ae.steps (v.length+1) (λa p=>∃c h b,p=(c,h,(a:Z),A++(w++C),b,())/\b.length=v.length+1/\aQ b/\iP b a/\0<=h/\h<4294967296/\(a=v.length+1->h=0)/\0<=c/\c<=1/\ag b-aV a*(c+h)=ag (w.take a)-g*ag (v.take a)) ⟨0,0,bJ (v.length+1) 0,bn,ac,aQ.lL _,iP.lL _ _,aa,aa,λ_=>rfl,aa,aa,by simp[ag,po]⟩ ?_ ?_
  ·rintro a _ I ⟨c,h,b,rfl,m,i,j,q,o,r,D,E,s⟩;have L:=u.getD a;have ad:=x.get (n:=a) aa;have U:=Ab H L;obtain⟨f,K,am,an⟩:∃f,f=h+g*v.getD a 0/\0<=f/\f<18446744073709551616:=⟨_,bn,aa,aa⟩;obtain⟨e,S,M,N⟩:∃e,e=w[a]-c-f %4294967296/\-4294967296<=e/\e<4294967296:=⟨_,bn,aa,aa⟩;dsimp only;rw[aY (aH (show(a:Z)<=ak v by grind))];refine ae.aK (P:=λd=>d=(-(e/4294967296),f/4294967296,A++(w++C),b.set a (e %4294967296),())) ?_ ?_
   ·refine ae.aK (P:=λd=>d=(f,A++(w++C),b,())) ?_ ?_
    ·rw[cQ];refine ae.ite (λB=>?_) λB=>?_
     ·grind [fo,bu,jv,eY,bg]
     grind [bg,o7,bu]
    rintro _ rfl;dsimp only;have ao:ay ((a:Z)+(A.length:Z))=((A.length+a:X):Z):=(by grind [cK]);have z:aJ (aJ (aJ w[a]-c)-ey bC f 4294967295)=e %18446744073709551616:=(by grind [and_low32,rL]);rw[Jm (k:=a) aa ao,m7,bN,z,lI aa,Qw,bN,pp];refine bu.2 ?_;grind
   rintro _ rfl;dsimp only;refine bu.2 ⟨-(e/4294967296),f/4294967296,b.set a (e %4294967296),by rw[bk aa],by grind,i.set aa aa,j.set _,aa,aa,?_,aa,aa,?_⟩
   ·grind
   rw[mL aa,j a (bd _) aa,hZ,iw (aa:a<w.length),x1];grind
  rintro _ ⟨c,h,b,rfl,m,i,j,q,o,r,D,E,s⟩;dsimp only;rw[a1 (aF (show¬(((v.length+1:X):Z)<=ak v) by grind))];have G:=r bn;subst G;rw[ck aa,ck aa,ajj] at s;grind [bu]
 rintro _ ⟨c,b,rfl,m,i,j,q,o⟩;have J:=g5 i;have T:=e7 i;have K:=fQ (v.length+1);rw[m] at J;dsimp only;rw[gb];by_cases t:c=0
 ·rw[aH t];subst t;rw[aka] at o;refine ae.aK (P:=λd=>d=(A++(b++C),())) ?_ ?_
  ·refine ae.steps (v.length+1) (λa p=>p=((a:Z),A++((b.take a++w.drop a)++C),b,())) rfl ?_ ?_
   ·rintro a _ I rfl;have ao:ay ((a:Z)+(A.length:Z))=((A.length+a:X):Z):=(by grind [cK]);dsimp only;rw[aY (aH (show(a:Z)<=ak v by grind)),lE aa,ad2 (k:=a) (by grind) ao,bk aa];refine bu.2 ?_;show(_,A++(List.set (b.take a++w.drop a) a b[a]++C),b,())=(_,A++((b.take (a+1)++w.drop (a+1))++C),b,());congr 4;have F:b.take (a+1)=b.take a++[b[a]]:=(by simp_all);rw[akb _ _ (by grind),F,aho,aix aa,Nat.sub_self,ai4 (aa:a<w.length),List.set_cons_zero,ahP];rfl
   rintro _ rfl;dsimp only;rw[a1 (aF (show¬(((v.length+1:X):Z)<=ak v) by grind))];grind [ck,ak8,bu]
  grind [bu]
 grind [aF,bu]
theorem abL {n:X} (D:aQ d) (cs:ag d=b) (io:d.length=n+1) (ge:b<aV (n+1)) (gf:1<=d[n]) (dl:aQ f) (gc:ag f=e) (co:f.length=c) (hw:c=a+(n+1)) (f8:c<=10000000) (ib:1<=a) (c2:ag (f.drop a)<b) (s:ahc) (gi:s.length=n+1) {J:ka->Prop} (f9:∀l j,l.length=a->aQ l->j.length=c->aQ j->ag j+b*ag l=e->ag j<b->J (j,l,())):ae (loop (σ:=(Z×bi×bi×bt)) (ρ:=ka) (λ(t,E,U,_)=>
 bif br (t>=0) then
 rd E (ay (t+ak s)) λft=>
 (h6 bC (aJ ft) 32).bind λfz=>
 rd E (ay (ay (t+ak s)-1)) λfT=>
 (al d (ay (ak s-1))).bind λf0=>
 (km bC (fN bC fz (aJ fT)) (aJ f0)).bind λan=>
 (loop (σ:=(Z×bi×bi×bt)) (ρ:=(Z×bi×bi×bt)) (λ(F,fn,V,_)=>
 (CR (fn,d,t,F,())).bind λ(R,el,_)=>
  bif !el then
 Y (.inl (aJ (F-1),R,V,())) else
 Y (.inr (F,R,V,()))) ((if 4294967295<an then 4294967295 else an),E,U,())).bind λ(a3,fp,d9,_)=>
 wr d9 t (db a3) λf1=>
 Y (.inl (ay (t-1),fp,f1,())) else
 Y (.inr (E,U,()))) (((a:Z)-1),f,bJ a (0:Z),())) J:=by
 have is:ag d=ag (d.take n)+aV n*d[n]:=(by grind [iw,ck]);have ii:=e7 (D.take n);have d0:=g5 (D.take n);rw[gh,h1 aa] at d0;have d1:=D.get (n:=n) aa;have G:0<b:=(by have:=rT (fQ n) (aa:0<d[n]);omega);refine ae.steps a (λq z=>∃l j,z=(((a:X):Z)-1-q,j,l,())/\l.length=a/\aQ l/\(∀i,i<a-q->(c1:i<l.length)->l[i]=0)/\j.length=c/\aQ j/\ag j+b*ag l=e/\ag (j.drop (a-q))<b) ⟨bJ a 0,f,ac,ac,aQ.lL _,ac,co,dl,by grind [po],c2⟩ ?_ ?_
 ·rintro q _ hr ⟨l,j,rfl,ax,S,T,fl,B,a4,K⟩;obtain⟨i,c1⟩:∃i,a=i+1+q:=⟨a-1-q,aa⟩;have ao:((a:X):Z)-1-(q:Z)=(i:Z):=aa;rw[(aa:a-q=i+1)] at K;obtain⟨p,bl⟩:∃p,p=j.take i:=⟨_,bn⟩;obtain⟨h,N⟩:∃h,h=(j.drop i).take (n+2):=⟨_,bn⟩;obtain⟨m,bx⟩:∃m,m=j.drop (i+(n+2)):=⟨_,bn⟩;have L:p.length=i:=(by grind);have i0:h.length=n+2:=(by rw[N,gh,nf];omega);have ds:j=p++(h++m):=by
   grind [ai1,aiK]
  have f6:m.length=c-(i+(n+2)):=(by grind);have d8:aQ p:=(by rw[bl];exact B.take i);have u:aQ h:=(by rw[N];exact(B.drop i).take _);have Q:aQ m:=(by rw[bx];exact B.drop _);have gl:ag (j.drop i)=ag h+aV (n+2)*ag m:=(by grind [List.drop_of_length_le,l9]);have go:ag (j.drop i)=j[i]+4294967296*ag (j.drop (i+1)):=mK aa;have i2:=B.get (n:=i) aa;have ce:=e7 Q;have f7:0<=aV (n+2)*ag m:=nc (fr (fQ _)) ce;have hv:ag (j.drop i)<4294967296*b:=aa;have d2:=e7 u;have ci:ag m=0:=by
   rcases i7 0 (ag m) with o|o
   ·exfalso;have:=jW (aa:1<=ag m) (fr (fQ (n+2)));grind [hZ]
   omega
  have H:0<=ag h/b:=ah7 d2 aa;have M:ag h/b<4294967296:=ami G aa;have gs:=aiy (ag h) b;have ic:=ajm (ag h) G;have id:=ajn (ag h) (aa:b≠0);have O:=u.get (n:=n+1) aa;have d3:=u.get (n:=n) aa;have i1:ay ((i:Z)+ak s)=((p.length+(n+1):X):Z):=(by simp only[bg];rw[cK aa aa];omega);have d4:ay (ay ((i:Z)+ak s)-1)=((p.length+n:X):Z):=(by rw[i1,cK aa aa];omega);have d5:ay (ak s-1)=((n:X):Z):=(by simp only[bg];rw[cK aa aa];omega);obtain⟨em,eq⟩:=E6 (x:=h[n+1]) (y:=h[n]) O d3;obtain⟨ex,i8⟩:=EC (x:=4294967296*h[n+1]+h[n]) (y:=d[n]) ⟨aa,aa⟩ aa;have hi:ag h/b<=(4294967296*h[n+1]+h[n])/d[n]:=(by rw[akc aa];have f2:ag h=ag (h.take n)+aV n*(4294967296*h[n+1]+h[n]):=(by grind [Fh]);have ap:=g5 (u.take n);rw[aho,aix aa] at ap;have f3:aV n*(ag h/b*d[n])<=ag h:=(by have f4:ag h/b*(aV n*d[n])<=ag h/b*b:=akd aa H;grind);have av:aV n*(ag h/b*d[n])<aV n*(4294967296*h[n+1]+h[n]+1):=(by grind);have:=ajp av (ahy (fQ n));omega);dsimp only;rw[ao,aY (aH (aa:(i:Z)>=0))]
  conv=>arg 1;rw[ds]
  rw[Jm (k:=n+1) aa i1];refine ae.bs (by rw[fo O.1 aa];exact em) ?_;rw[Jm (k:=n) aa d4];refine ae.bs (by rw[d5];exact eY aa) ?_;refine ae.bs (by rw[eq,fo d1.1 aa];exact ex) ?_;refine ae.aK (P:=λek=>∃r,ek=(ag h/b,p++(r++m),l,())/\r.length=n+2/\aQ r/\ag r=ag h %b) ?_ ?_
  ·have gt:0<=(4294967296*h[n+1]+h[n])/d[n]:=mf aa aa;refine ahx (λz=>∃o,z=(o,p++(h++m),l,())/\ag h/b<=o/\o<4294967296) (λz=>z.1.toNat) ⟨_,bn,aa,aa⟩ ?_;rintro _ ⟨o,rfl,f5,a0⟩;have ad:=adk (A:=p) (w:=h) (C:=m) (v:=d) (g:=o) D u aa aa ⟨aa,a0⟩;rw[L] at ad;refine ae.aK ad ?_;rintro _ (⟨I,rfl⟩|⟨r,I,rfl,i3,d6,d7⟩)
   ·have hc:ag h/b<o:=by
     grind
    refine bu.2 ⟨⟨o-1,by rw[fo aa aa],aa,aa⟩,?_⟩;show(aJ (o-1)).toNat<o.toNat;rw[fo aa aa];omega
   rw[cs] at I d7;have hs:o<=ag h/b:=(akc G).2 I;have cv:o=ag h/b:=aa;refine bu.2 ⟨r,by rw[cv],aa,d6,?_⟩;grind
  rintro _ ⟨r,rfl,jp,fs,am⟩;dsimp only;rw[la H M,lI aa];refine bu.2 ⟨l.set i (ag h/b),p++(r++m),?_,by grind,S.set H M,?_,by simp;omega,aQ.append.2 ⟨d8,aQ.append.2 ⟨fs,Q⟩⟩,?_,?_⟩
  ·rw[cK aa aa];grind
  ·grind [List.getElem_set_ne]
  ·rw[mL aa,T i aa aa,l9,l9,L,am];grind [L8,l9]
  rw[(aa:a-(q+1)=i),rV aa,qw aa,iL,l9,ci,am];omega
 rintro _ ⟨l,j,rfl,ax,S,T,fl,B,a4,K⟩;have ao:¬(((a:X):Z)-1-(a:Z)>=0):=aa;simp_all [bu,oQ,lj,aF,bO]
end
theorem XK {n:X} (f:aQ d) (j:e5 d) (t:d.length=n+1):∃c:X,c<=31/\ur (d[n],())=Y ((c:Z),())/\ag d*2^c<aV (n+1)/\2147483648*aV n<=ag d*2^c:=by
 have i:=f.get (n:=n) aa;have m:d[n]≠0:=j _ (by grind);have o:ag d=ag (d.take n)+aV n*d[n]:=(by grind [iw,ck]);have p:=e7 (f.take n);have h:=g5 (f.take n);rw[gh,h1 aa] at h;generalize d[n]=u at*;obtain⟨a,rfl⟩:=gg i.1;have g:0<a:=aa;have r:aL a<=32:=gp.2 aa;have q:=pQ g;obtain⟨k,l⟩:=tV g;obtain⟨b,s⟩:∃b,aL a=b+1:=⟨aL a-1,aa⟩;refine⟨32-aL a,aa,?_,?_,?_⟩
 ·unfold ur;refine ah (H7 (n:=a) aa) ?_;grind [cK]
 ·have ao:ag d<aV n*2^aL a:=by
   have:aV n*((a:Z)+1)<=aV n*2^aL a:=jW (by grind) (fr (fQ _));grind
  have e:ag d*2^(32-aL a)<aV n*2^aL a*2^(32-aL a):=rS ao (jT _);rw[jV,<-lP,(aa:aL a+(32-aL a)=32)] at e;grind [aig,hZ]
 have ao:aV n*2^b<=ag d:=(by have:aV n*2^b<=aV n*(a:Z):=jW (by grind) (fr (fQ _));omega);have e:aV n*2^b*2^(32-aL a)<=ag d*2^(32-aL a):=nb ao (fr (jT _));rw[jV,<-lP,(aa:b+(32-aL a)=31)] at e;omega
theorem adj (b:aQ d) (e:a<=d.length) (f:ag d<aV a):ag (d.take a)=ag d:=by
 have g:=oD d a e;have h:=e7 (b.drop a);have i:=e7 (b.take a);rcases i7 0 (ag (d.drop a)) with c|c
 ·exfalso;have:=jW (aa:1<=ag (d.drop a)) (fr (fQ a));omega
 grind
theorem abM (l:aQ f) (m:aQ d) (I:e5 f) (w:e5 d) (ds:f.length<=1000000) (d0:d.length<=1000000) (co:d≠[]):GH (f,d,())=Y (eS (ag f/ag d).toNat,eS (ag f %ag d).toNat,()):=by
 unfold GH;refine bP.1 ?_;have C:=e7 l;have O:0<ag d:=(by have:=e7 m;grind [e5.zero]);refine ae.bs (PJ l m I w aa aa) ?_;dsimp only;rw[cQ];refine ae.ite (λs=>?_) λs=>?_
 ·have o:ag f<ag d:=LI.1 s;refine bu.2 ?_;rw[pt C o,rR C o];show(([]:ahc),f,())=(eS 0,eS (ag f).toNat,());rw[Hj,<-e5.eq l I]
 have cs:ag d<=ag f:=Int.not_lt.1 (mt LI.2 s);obtain⟨b,D⟩:∃b,d.length=b+1:=(by simp_all [ym]);have ao:ay (ak d-1)=((b:X):Z):=(by grind [cK,bg]);obtain⟨c,av,a0,a3,d6⟩:=XK m w D;have cv:b+1<=f.length:=by
  rcases cS f.length (b+1) with j|j
  ·have:=qp l m w aa;omega
  omega
 have E:=jT c;refine ae.bs (y:=d[b]) (by grind [eY]) (ae.bs a0 ?_);refine ae.aK (Jw l aa (n:=c) aa) ?_;rintro _ ⟨p,rfl,H,G,F⟩;refine ae.aK (Jw m aa (n:=c) aa) ?_;rintro _ ⟨K,rfl,ap,dl,am⟩;rw[(aa:c/32=0),amj] at F am;have N:ak d=((b+1:X):Z):=(by grind);dsimp only;refine ae.bs (y:=(0,b+1)) ?_ ?_
 ·rw[N,aC,u1,aC,qa ⟨c8 _,aa⟩,aC,Jd aa];rfl
 obtain⟨h,V⟩:∃h,h=(K.take (b+1)).drop 0:=⟨_,bn⟩;have ad:h=K.take (b+1):=(by grind);have uV:aQ h:=(by rw[ad];exact ap.take _);have S:ag h=ag d*2^c:=(by grind [adj]);have an:h.length=b+1:=(by grind);have U:1<=h[b]:=by
  have u:ag h=ag (h.take b)+aV b*h[b]:=(by grind [iw,ck]);have k:=g5 (uV.take b);rw[gh,h1 aa] at k;have c1:=fQ b;rcases i7 h[b] 1 with j|j
  ·exfalso;have:h[b]=0:=(by have:=uV.get (n:=b) aa;omega);grind
  omega
 dsimp only;rw[<-V];refine ae.bs (y:=(h,p,())) ?_ ?_
 ·grind
 obtain⟨g,T⟩:∃g,f.length+1=g+(b+1):=⟨f.length+1-(b+1),aa⟩;have M:ay (ak f-ak d)=(g:Z)-1:=(by grind [cK,bg]);have a4:aP (ay (ak f-ak d))=((g:X):Z):=(by grind [cq]);dsimp only;refine ae.bs (y:=g) (by grind [ij]) ?_;have o:ag (p.drop g)<ag d*2^c:=(by have t:=oD p g aa;have x:=e7 (H.take g);rw[G] at t;have u:ag f*2^c<aV f.length*2^c:=aj7 (g5 l) E;have z:aV f.length=aV g*aV b:=(by grind [tw]);have k:aV g*ag (p.drop g)<aV g*(aV b*2^c):=(by grind [Int.mul_assoc]);have v:=ajp k (ahy (fQ g));have bx:aV b*2^c<=aV b*2147483648:=akd (vb av) (ahy (fQ _));omega);rw[M];refine ae.aK (P:=λL=>∃e i,L=(i,e,())/\e.length=g/\aQ e/\i.length=f.length+1/\aQ i/\ag i+ag d*2^c*ag e=ag f*2^c/\ag i<ag d*2^c) (abL uV S an a3 U H G F T aa aa o d D λe i t x u z k v=>⟨e,i,bn,t,x,u,z,k,v⟩) ?_;rintro _ ⟨e,i,rfl,ax,d5,d7,J,k,v⟩;have c2:=e7 J;have ce:ag i=2^c*(ag f-ag d*ag e):=(by grind);have Q:0<=ag f-ag d*ag e:=by
  rcases i7 (ag f-ag d*ag e) 0 with j|j
  ·have:=amk E j;omega
  omega
 have R:ag f-ag d*ag e<ag d:=(by simp_all [ajp,ahy,aig,ag]);have ci:ag i/2^c=ag f-ag d*ag e:=(by grind [aml]);obtain⟨bl,f2⟩:=ED (A:=ag f) (B:=ag d) (q:=ag e) (r:=ag f-ag d*ag e) O aa Q R;dsimp only;refine ae.bs (EQ J aa) ?_;dsimp only;refine ae.aK (Jx (a:=iv i) (n:=c) (J1 i) (by grind [Q0]) aa) ?_;rintro _ ⟨d1,rfl,d2,d3,d4⟩;grind [J2,ae.bs,EQ,bu,Q0,iv]
theorem Ji {x y:Z} (n:aL x.natAbs<=3000000) (o:aL y.natAbs<=3000000):sq (aT x,aT y,())=Y (aT (x+y),()):=by
 obtain⟨a,f,r⟩:=hU n;obtain⟨b,g,s⟩:=hU o;unfold sq;dsimp only;refine bP.1 ?_;refine ae.bs (te a f aa) (ae.bs (te b g aa) ?_);dsimp only;have u:=iq x;have v:=iq y;have p:(aT x).1=br (x<0):=rfl;have q:(aT y).1=br (y<0):=rfl;rw[p,q];by_cases m:(br (x<0)==br (y<0))=bp
 ·rw[aY m];refine ae.aK (abw a b aa aa) ?_;rintro _ ⟨k,rfl,d,e,l⟩;refine ae.bs (tc d (by grind) e) (bu.2 ?_);grind
 rw[a1 (by grind)];have t:¬(x<0↔y<0):=(by grind);refine ae.bs (PJ a b f g aa aa) ?_;dsimp only;rw[cQ];refine ae.ite (λh=>?_) λh=>?_
 ·have j:=BE.1 h;have i:(aT y).2.1.length<=(aT x).2.1.length:=by
   rcases cS (aT x).2.1.length (aT y).2.1.length with c|c
   ·have:=qp a b g c;omega
   omega
  refine ae.aK (Qf a b aa i j) ?_;rintro _ ⟨k,rfl,d,e,l⟩;refine ae.bs (tc d (by grind) e) (bu.2 ?_);grind
 have j:ag (aT x).2.1<ag (aT y).2.1:=Int.not_le.1 (mt BE.2 h);have i:(aT x).2.1.length<=(aT y).2.1.length:=by
  rcases cS (aT y).2.1.length (aT x).2.1.length with c|c
  ·have:=qp b a f c;omega
  omega
 refine ae.aK (Qf b a aa i (fr j)) ?_;rintro _ ⟨k,rfl,d,e,l⟩;refine ae.bs (tc d (by grind) e) (bu.2 ?_);grind
theorem Qe (a:aL b.natAbs<=3000000) (c:aL e.natAbs<=3000000):wP (aT b,aT e,())=Y (aT (b-e),()):=by simp_all [ah,Ji,ajr,Int.sub_eq_add_neg,P0,wP]
theorem ab2 (i:aL b.natAbs<=3000000) (j:aL e.natAbs<=3000000):GG (aT b,aT e,())=Y (aT (b*e),()):=by
 obtain⟨a,d,m⟩:=hU i;obtain⟨c,f,n⟩:=hU j;unfold GG;dsimp only;refine bP.1 ?_;refine ae.bs (te a d aa) (ae.bs (te c f aa) ?_);dsimp only;refine ae.aK (ab3 a c aa aa) ?_;rintro _ ⟨o,rfl,k,l,p⟩;refine ae.bs (tc k (by grind) l) (bu.2 ?_);dsimp only;rw[iq,iq];congr 2;show(if(!(br (b<0)==br (e<0)))=bp then _ else _)=_;rcases aif b 0 with g|g<;>rcases aif e 0 with h|h
 ·grind
 ·grind
 ·grind
 grind
theorem Js {n:Z} (b:-9223372036854775808<=n) (c:n<=9223372036854775807):sr (n,())=Y (aT n,()):=by
 unfold sr;dsimp only;obtain⟨a,d,e,f⟩:∃a:Z,a=n.natAbs/\0<=a/\a<=9223372036854775808:=⟨_,bn,aa,aa⟩;refine ah (y:=(a,(bq,([],())),())) ?_ ?_
 ·rw[cQ];grind [fo,cq,cK]
 dsimp only;rw[m7,bN,pp a,la (x:=a/4294967296) aa aa];refine ah (AG (aQ.cons.2 ⟨⟨aa,aa⟩,aQ.cons.2 ⟨⟨aa,aa⟩,aQ.nil⟩⟩) ac) ?_;grind [ag,hl]
theorem Jv {z:Z} {n:X} (a:aL z.natAbs<=3000000) (g:n<=10000000):n9 (aT z,(n:Z),())=Y (aT (z*2^n),()):=by obtain⟨c,e,f⟩:=hU a;unfold n9;dsimp only;refine bP.1 ?_;refine ae.bs (xS a) ?_;dsimp only;rw[aY (aH (aa:(n:Z)>=0))];refine ae.aK (Jw c aa (n:=n) aa) ?_;rintro _ ⟨h,rfl,d,b,i⟩;rw[iq] at b;refine ae.bs (tc d (by grind) b) (bu.2 ?_);dsimp only;congr 2;show(if br (z<0)=bp then _ else _)=_;grind
theorem ach (j:aL b.natAbs<=2900000) (q:a<=10000000) (r:0<a):n9 (aT b,-(a:Z),())=Y (aT (b/2^a),()):=by
 obtain⟨f,o,p⟩:=hU (z:=b) aa;have i:=jT a;unfold n9;dsimp only;refine bP.1 ?_;refine ae.bs (xS aa) ?_;dsimp only;have ao:ay (0- -(a:Z))=(a:Z):=(by grind [cK]);rw[a1 (aF (aa:¬(-(a:Z)>=0))),ao];refine ae.aK (Jx f aa (n:=a) aa) ?_;rintro _ ⟨u,rfl,k,e,v⟩;rw[iq] at e|-;dsimp only;refine ae.bs (tc k aa e) ?_;dsimp only;have l:(aT b).1=br (b<0):=rfl;rw[l];have s:0<=(b.natAbs:Z)/2^a:=ah7 aa aa;have t:(b.natAbs:Z)/2^a<=b.natAbs:=ajq _ aa;have c:=Ok (m:=b.natAbs) i aa;refine ae.bs (y:=((bq,([],())),aT (b/2^a),())) ?_ (bu.2 bn);by_cases g:b<0
 ·rw[aH g];rw[(aa:-(b.natAbs:Z)=b)] at c;by_cases d:(b.natAbs:Z) %2^a=0
  ·grind
  rw[aH (show(b.natAbs:Z) %2^a≠0 from d)];refine ah bn ?_;dsimp only[bG];rw[cf d] at c;refine ah (Js ab ab) ?_;dsimp only;have h:aL (-((b.natAbs:Z)/2^a)).natAbs<=3000000:=(by rw[gp];have:=gp.1 j;omega);rw[b9 bn];refine ah (Qe h ab) ?_;grind
 grind
theorem abB (c:aL b.natAbs<=2900000) (d:aL e.natAbs<=2900000):GD (aT b,aT e,())=Y (fE b e,()):=by unfold GD;refine ah (Qe aa aa) ?_;have a:aL (b-e).natAbs<=3000000:=(by have f:=S1 2900000 c d;have g:=lX (aa:(b-e).natAbs<=b.natAbs+e.natAbs);omega);refine ah (lF a) ?_;grind [gA,fE]
def FZ (b:aL c<=a) (d:aL j<=a):aL (c+j)<=a+1:=by rw[gp,tM];have:=gp.1 b;have:=gp.1 d;omega
def abN {x y:Z} (o:aL x.natAbs<=3000000) (j:aL y.natAbs<=3000000) (F:0<=x) (c:y≠0):GF (aT x,aT y,())=Y (aT (x/y),aT (x %y),()):=by
 obtain⟨m,p,q⟩:=hU o;obtain⟨n,r,s⟩:=hU j;have w:(aT y).2.1≠[]:=λt=>c (w2.1 t);unfold GF;refine ah (xS o) (ah (xS j) ?_);dsimp only;refine ah (abM m n p r aa aa w) ?_;rw[iq,iq];have A:(aT x).1=bq:=aF aa;have C:(aT y).1=br (y<0):=rfl;rw[A,C];have f:0<=(x.natAbs:Z)/(y.natAbs:Z):=ah7 aa aa;have g:(x.natAbs:Z)/(y.natAbs:Z)<=x.natAbs:=ajq _ aa;have h:0<=(x.natAbs:Z) %(y.natAbs:Z):=ajn _ aa;have i:(x.natAbs:Z) %(y.natAbs:Z)<(y.natAbs:Z):=ajm _ aa;have d:∀a:Z,a<=x.natAbs->(eS a.toNat).length<=100000:=λa k=>AT (l:=(aT x).2.1) m q (by rw[iq];exact k);have e:∀a:Z,a<=y.natAbs->(eS a.toNat).length<=100000:=λa k=>AT (l:=(aT y).2.1) n s (by rw[iq];exact k);dsimp only;refine ah (tc (ob _) (by have:=d _ g;omega) (uH f)) (ah (tc (ob _) (by have:=e _ (ahy i);omega) (uH h)) ?_);dsimp only;rw[cf (ac:¬(bq=bp))];have ao:(x.natAbs:Z)=x:=aa;rw[ao] at*;have u:x %(y.natAbs:Z)=x %y:=by
  rcases i7 y 0 with b|b
  ·rw[(aa:(y.natAbs:Z)=-y),amm]
  rw[(aa:(y.natAbs:Z)=y)]
 rw[u] at*;have D:0<=x %y:=nV _ c;have E:x %y<y.natAbs:=Int.emod_lt x c;have z:aL (x %y).natAbs<=3000000:=(by clear f g h i d e;generalize x %y=B at*;exact dh (lX aa) j);have v:(if(!(bq==br (y<0)))=bp then-(x/(y.natAbs:Z)) else x/(y.natAbs:Z))=x/y:=by
  rcases i7 y 0 with b|b
  ·rw[aH b,(aa:(y.natAbs:Z)=-y),amn];simp
  rw[aF (aa:¬y<0),(aa:(y.natAbs:Z)=y)];simp
 rw[v];refine ah (y:=((bq,([],())),(bq,([],())),aT (x/y),aT (x %y),())) ?_ bn;refine ah (lF z) ?_;dsimp only;rw[a1 (aF ?_)];clear f g h i d e;generalize x %y=B at*;unfold gA;split;omega;split<;>omega
def PU {z:Z} {n:X} (c:aL z.natAbs<=3000000) (e:n<=10000000):zh (aT z,(n:Z),())=Y (br ((z.natAbs:Z) %2^n≠0),()):=by obtain⟨a,b,d⟩:=hU c;unfold zh;dsimp only;refine bP.1 ?_;refine ae.bs (te a b aa) ?_;dsimp only;refine ae.aK (Jx a aa (n:=n) aa) ?_;rintro _ ⟨f,rfl,g,h,i⟩;rw[iq];exact bu.2 bn
def ab0 {z:Z} (p:0<=z) (d:z<9223372036854775808):CP (aT z,())=Y (z,bp,()):=by
 have f:aL z.natAbs<=64:=gp.2 aa;obtain⟨b,n,o⟩:=hU (z:=z) aa;have q:(aT z).2.1.length<=2:=zF aa;unfold CP;dsimp only;refine bP.1 ?_;refine ae.bs (xS aa) ?_;dsimp only;rw[a1 (aF (show¬(ak (aT z).2.1>2) by simp only[bg];omega))];refine ae.aK (P:=λl=>l=(z,aT z,())) ?_ ?_
 ·have k:=iq z;refine ae.steps (aT z).2.1.length (λa m=>m=(ag ((aT z).2.1.take a),(a:Z),aT z,())) rfl ?_ ?_
  ·rintro a _ c rfl;have h:=b.get c;dsimp only;rw[aY (aH (show(a:Z)<ak (aT z).2.1 by simp only[bg];omega)),eY c,bN];have d:=e7 (b.take a);have e:=g5 (b.take a);rw[aho,aix aa,qt] at e;have ao:ay (32*(a:Z))=((32*a:X):Z):=(by rw[cK aa aa];simp);have f:(2:Z)^(32*a)<=4294967296:=by
    rcases(aa:a=0\/a=1) with rfl|rfl<;>decide
   have j:=jT (32*a);have r:(aT z).2.1[a]*2^(32*a)<4294967296*4294967296:=(by have:=jW f h.1;omega);have g:0<=(aT z).2.1[a]*2^(32*a):=nc h.1 (fr j);rw[ao,fo (x:=(aT z).2.1[a]) aa aa,nR aa aa,aC,fA,rR g aa,m3 (32*a) d e g aa aa (aj8 _ _),bk aa];refine bu.2 ?_;show(_,_,aT z,())=(_,_,aT z,());rw[iw c,qt,kR (2^(32*a))]
  rintro _ rfl;dsimp only;rw[a1 (aF (show¬(((aT z).2.1.length:Z)<ak (aT z).2.1) by simp only[bg];omega)),ck (cc _),k];refine bu.2 ?_;show(((z.natAbs:X):Z),aT z,())=_;rw[(aa:((z.natAbs:X):Z)=z)]
 rintro _ rfl;have i:(aT z).1=bq:=aF aa;dsimp only;rw[i,bO,a1 (aF (aa:¬(z>9223372036854775807))),cK aa aa];exact bu.2 bn
theorem Qt (h:aL e.natAbs<=1900000) (f:-1048576<=b) (g:b<=1048576):qX (aT e,b,())=Y (aT (rD e b),0,()):=by
 rcases i7 b 0 with d|d
 ·obtain⟨a,c⟩:∃a:X,b=-(a:Z):=⟨(-b).toNat,aa⟩;subst c;grind [acA,xW]
 obtain⟨a,c⟩:∃a:X,b=(a:Z):=⟨b.toNat,aa⟩;grind [acB,pi]
theorem Ju (h:aL e.natAbs<=2900000) (f:-10000000<=b) (g:b<=10000000):n9 (aT e,b,())=Y (aT (rD e b),()):=by
 rcases i7 b 0 with d|d
 ·obtain⟨a,c⟩:∃a:X,b=-(a:Z):=⟨(-b).toNat,aa⟩;subst c;grind [ach,xW]
 obtain⟨a,c⟩:∃a:X,b=(a:Z):=⟨b.toNat,aa⟩;grind [Jv,pi]
def eI (a:Z):Z:=if a=0 then 0 else eQ a
theorem Af:cE 0=0:=rfl
theorem hB (a:Z):az (Y a)=(bq,aT (cE a),eI a,()):=by
 by_cases b:a=0
 ·subst b;rfl
 rw[Mp b,eI,aw b]
theorem kn (a:fO b):aL (cE b).natAbs<=131072:=by
 by_cases c:b=0
 ·subst c;exact a
 grind [IH,fO]
theorem kN (a:fO b):-65536<=eI b/\eI b<=65536:=by grind [rI,fO,eQ,eI]
theorem D5 (c:fO b):hE (cE b) (eI b)=Y b:=by
 by_cases a:b=0
 ·subst a;rfl
 rw[eI,aw a,Xg c]
theorem XU (c:b=0\/e<=eQ b) (g:-65536<=e):cE b*2^(eI b-e).toNat*2^(e+65536).toNat=b:=by
 by_cases a:b=0
 ·grind [Af]
 have d:=oq b;have f:=c.resolve_left a;rw[eI,aw a,jV,<-lP];grind [eQ,cN]
theorem Mo (z:b≠0) (v:¬(e+cN b.natAbs< -65536\/65536<e+aL b.natAbs)):az (hE b e)=(bq,aT (b/2^cN b.natAbs),e+cN b.natAbs,())/\(hE b e).isSome=bp:=by
 obtain⟨c,s⟩:∃c,c=rD b (e+65536):=⟨_,bn⟩;have r:hE b e=Y c:=(by simp_all [aw,hE]);rw[r];refine⟨?_,bn⟩;obtain⟨h,y⟩:=tm (n:=b.natAbs) aa;have o:=(sR (n:=b.natAbs) (k:=cN b.natAbs) aa).1 (bd _);have q:b/2^cN b.natAbs*2^cN b.natAbs=b:=zD o;have A:(b/2^cN b.natAbs).natAbs=2*h+1:=(by grind [ak4,aji,Ac]);generalize x:cN b.natAbs=d at*;generalize w:b/2^d=j at*;have t:c=j*2^(e+d+65536).toNat:=by
  rw[s,<-q];rcases al6 0 (e+65536) with l|l
  ·obtain⟨a,g⟩:∃a:X,e+65536=a:=⟨(e+65536).toNat,aa⟩;rw[g,pi,jV,<-lP];grind
  obtain⟨a,g⟩:∃a:X,e+65536=-(a:Z):=⟨(-(e+65536)).toNat,aa⟩;obtain⟨i,p⟩:∃i:X,d=i+a:=⟨d-a,aa⟩;rw[g,xW,p,lP,<-jV,ak9 _ (by have:=jT a;omega)];grind
 obtain⟨f,m⟩:∃f:X,e+d+65536=f:=⟨(e+d+65536).toNat,aa⟩;rw[m,fA] at t;have u:c.natAbs=(2*h+1)*2^f:=(by grind [iZ]);have B:cN c.natAbs=f:=x0 u;have C:c≠0:=(by grind);grind [ak9,jT,Mp,eQ,cE]
theorem PT {m:Z} {n:X} (e:aL m.natAbs<=1900000) (f:n<=1048576):yR (aT m,(n:Z),())=Y (aT (m/2^n),()):=by
 unfold yR;dsimp only;refine bP.1 ?_;refine ae.aK (P:=λc=>c=((n:Z),aT m,(bq,([],())),())) ?_ ?_
 ·refine ae.steps 0 (λb a=>a=((n:Z),aT m,(bq,([],())),())) rfl (λb a d=>by omega) ?_;rintro _ rfl;dsimp only;rw[a1 (aF (aa:¬((n:Z)>1048576)))];grind [bu]
 grind [cK,ala,ae.bs,Qt,bu,xW]
theorem zY {m k:Z} (b:aL m.natAbs<=1900000) (c:0<=k) (a:k<=1048576):o1 (aT m,k,())=Y (aT (m*2^k.toNat),()):=by unfold o1;refine ah (Qt b aa a) ?_;grind [pi,ahi]
theorem Oo (p:aL e.natAbs<=900000) (m:-1000000000000<=u) (o:u<=1000000000000):pU ((bq,aT e,u,()),())=Y (az (hE e u),(hE e u).isSome,()):=by
 obtain⟨f,k,l⟩:=hU (z:=e) aa;unfold pU;dsimp only;rw[bO];have d:=XL (b:=aT e) f aa;rw[oC] at d;refine ah d ?_;refine ah (th (jO aa)) ?_;dsimp only;rw[gH,cQ];split
 ·rename_i a;have:e=0:=by
   grind [gA]
  subst this;rfl
 rename_i a;have c:e≠0:=(by intro u;subst u;exact a bn);have q:=rI (n:=e.natAbs) aa;refine ah (Rb (jO aa) c) ?_;dsimp only;by_cases i:u+cN e.natAbs< -65536\/65536<u+aL e.natAbs
 ·have j:hE e u=bo:=(by simp_all [aw,au,hE]);rw[j];refine ah (y:=.inr (az bo,bq,())) ?_ bn;refine ah (y:=(bp,(bq,((bq,([],())),((0:Z),()))),aT e,())) ?_ bn;refine ah (wk (jO aa)) ?_;grind [aF,aH,cK]
 obtain⟨g,h⟩:=Mo c i;rw[g,h];refine ah (y:=.inl ((bq,((bq,([],())),((0:Z),()))),aT e,())) ?_ ?_
 ·refine ah (y:=(bq,(bq,((bq,([],())),((0:Z),()))),aT e,())) ?_ bn;refine ah (wk (jO aa)) ?_;grind [aF,cK]
 refine ah (PT aa aa) ?_;grind [cK]
theorem Ad (b:cL k):pU (az k,())=Y (az k,k.isSome,()):=by
 cases k with
 |none=>rfl
 |some c=>
  have a:=b c bn;have d:=kn a;have e:=kN a;grind [hB,Oo,D5]
def D1 (d:aL e.natAbs<=900000) (a:-1000000000000<=b) (c:b<=1000000000000):uh (aT e,b,())=Y (az (hE e b),()):=by unfold uh;exact ah (Oo d a c) rfl
def Hd (a:cL k):wy (az k,())=Y (az k,()):=by unfold wy;exact ah (Ad a) rfl
def vj (a:ag6):Z:=gA (a.getD 0)
theorem Qr (a:Z):gA (cE a)=gA a:=by
 unfold gA;have:=u4 (v:=a);by_cases b:a=0
 ·subst b;rfl
 simp_all [jA,aw]
def o4 (a:cL k):mX (az k,())=Y (vj k,()):=by
 unfold mX;refine ah (Ad a) ?_;cases k with
 |none=>exact ah (th (z:=0) (jO ab)) rfl
 |some b=>
  have c:=kn (a b bn);rw[hB];refine ah (th (jO aa)) ?_;show Y (gA (cE b),())=_;rw[Qr];rfl
theorem J3 {a b:ag6} (c:cL a) (d:cL b):wA (az a,az b,())=Y (az a,az b,a.isSome&&b.isSome,()):=by unfold wA;refine ah (Ad c) (ah (Ad d) ?_);grind
def cT (c d:ag6):ag6:=c.bind λa=>d.bind λb=>hE (cE a*cE b) (eI a+eI b)
def cH (a b:ag6):ag6:=a.bind λc=>b.bind λd=>mW (c+d)
def c4 (a:ag6):ag6:=a.map λb=>-b
def Bn (a:ag6):ag6:=a.map λb=>(b.natAbs:Z)
theorem kJ (b c:ag6):cL (cT b c):=by
 intro d a;unfold cT at a;cases b with
 |none=>cases a
 |some e=>cases c with
  |none=>cases a
  |some f=>exact Is _ _ d a
theorem kA (b c:ag6):cL (cH b c):=by
 intro d a;unfold cH at a;cases b with
 |none=>cases a
 |some e=>cases c with
  |none=>cases a
  |some f=>exact Tq _ d a
theorem Oj (b:cL k):cL (c4 k):=by
 intro d a;cases k with
 |none=>cases a
 |some c=>cases a;have:=b c bn;grind [ajr,fO]
def pZ (a:cL k) (b:cL n):ny (az k,az n,())=Y (az (cT k n),()):=by
 unfold ny;refine ah (J3 a b) ?_;cases k with
 |none=>rfl
 |some c=>
  cases n with
  |none=>rfl
  |some d=>
   have e:=kn (a c bn);have f:=kn (b d bn);have g:=kN (a c bn);have h:=kN (b d bn);rw[hB,hB];refine ah (Xo aa aa) ?_;dsimp only;rw[cK aa aa];refine ah (D1 ?_ aa aa) rfl;rw[amp];have:=Bz e f;omega
theorem II (a:Z):cE (-a)=-cE a:=by have b:=oq a;grind [Int.eq_of_mul_eq_mul_right,Int.neg_mul,jT,ajr,oq,cE,cN]
theorem Hp (a:Z):eI (-a)=eI a:=by simp_all [aw,ajr,eI,eQ]
theorem XR (a:Z):cE (a.natAbs:Z)=((cE a).natAbs:Z):=by
 have c:=u4 (v:=a);rcases i7 a 0 with b|b
 ·grind [II]
 grind
theorem UG (a:Z):eI (a.natAbs:Z)=eI a:=by grind [Hp,aif]
def T5 (b:cL k):BK (az k,())=Y (az (c4 k),()):=by
 unfold BK;refine ah (Ad b) ?_;cases k with
 |none=>rfl
 |some a=>
  have c:=kn (b a bn);rw[hB];refine ah (ah (Ol (jO aa)) rfl) ?_;show Y ((bq,aT (-cE a),eI a,()),())=Y (az (Y (-a)),());rw[hB,II,Hp]
def jU (a b:Z):Z:=cE a*2^(eI a-b).toNat
theorem E9 (a:e=0\/b<=eQ e) (c:-65536<=b):jU e b*2^(b+65536).toNat=e:=XU a c
def tn (a:b=0\/e<=eQ b) (f:-65536<=e) (g:fO b):aL (jU b e).natAbs<=131072:=by
 have c:=E9 a f;have d:(jU b e).natAbs<=b.natAbs:=by
  conv=>rhs;rw[<-c,iZ]
  exact Nat.le_mul_of_pos_right _ (jG _)
 exact dh (lX d) g
def ND (c:b=0\/e<=eQ b) (h:-65536<=e) (i:e<=65536) (a:fO b) (d:e<=eI b):o1 (aT (cE b),eI b-e,())=Y (aT (jU b e),()):=by have f:=kn a;have g:=kN a;exact zY aa aa aa
theorem N4 (a:-65536<=b) (c:e=0\/b<=eQ e) (d:u=0\/b<=eQ u):hE (jU e b+jU u b) b=mW (e+u):=by grind [Int.add_mul,E9,D6]
theorem mu (a:e<=eI b):b=0\/e<=eQ b:=by
 by_cases c:b=0
 ·omega
 simp_all [aw,eI]
def KU (f:fO b) (g:fO e):∃a,a<=eI b/\a<=eI e/\-65536<=a/\a<=65536/\yP (az (Y b),az (Y e),())=Y (aT (jU b a),aT (jU e a),a,()):=by have h:=kN f;have i:=kN g;refine⟨if eI e<eI b then eI e else eI b,aa,aa,aa,aa,?_⟩;unfold yP;rw[hB,hB];dsimp only;generalize j:(if eI e<eI b then eI e else eI b)=a;have ao:a<=eI b:=aa;have c:a<=eI e:=aa;have d:-65536<=a:=aa;rw[cK (x:=eI b-a) aa aa,cK (x:=eI e-a) aa aa];exact ah (ND (mu ao) d aa f ao) (ah (ND (mu c) d aa g c) rfl)
def L0 (e:cL k) (b:cL n):yM (az k,az n,())=Y (az (cH k n),()):=by
 unfold yM;refine ah (J3 e b) ?_;cases k with
 |none=>rfl
 |some h=>
  cases n with
  |none=>rfl
  |some i=>
   have f:=e h bn;have g:=b i bn;obtain⟨c,ao,d,a,o,m⟩:=KU f g;have j:=tn (mu ao) a f;have l:=tn (mu d) a g;refine ah m (ah (KR aa aa) ?_);have b:aL (jU h c+jU i c).natAbs<=131073:=dh (lX (amq _ _)) (FZ j l);refine ah (D1 aa aa aa) ?_;rw[N4 a (mu ao) (mu d)];rfl
def He (b:cL k) (a:cL n):wz (az k,az n,())=Y (az (cH k (c4 n)),()):=by unfold wz;exact ah (T5 a) (ah (L0 b (Oj a)) rfl)
theorem J6 (c:-65536<=b) (h:e=0\/b<=eQ e) (i:u=0\/b<=eQ u):jU e b<jU u b↔e<u:=by
 have f:=E9 h c;have g:=E9 i c;have d:=jT (b+65536).toNat;constructor
 ·intro a;have:=rS a d;omega
 intro a;rw[<-f,<-g] at a;exact Int.lt_of_mul_lt_mul_right a (fr d)
theorem L1 (d:fO e) (f:fO u):yN (az (Y e),az (Y u),())=Y (fE e u,bp,()):=by unfold yN;refine ah (J3 (a:=Y e) (b:=Y u) (λj i=>by grind) (λj i=>by grind)) ?_;obtain⟨m,ao,g,c,n,h⟩:=KU d f;have k:=tn (mu ao) c d;have l:=tn (mu g) c f;refine ah h (ah (LJ aa aa) ?_);grind [J6,mu,fE]
def jx (a:Z):ag6:=hE a 0
def zC (a:-9223372036854775808<=b) (c:b<=9223372036854775807):qW (b,())=Y (az (jx b),()):=by unfold qW;have d:aL b.natAbs<=64:=gp.2 aa;exact ah (DA a c) (ah (D1 aa ab ab) rfl)
def QY:et->Z
 |[]=>0
 |d::a=>d.getD 0+QY a
def KW:et->bA
 |[]=>bp
 |d::a=>d.isSome&&KW a
def ac3 (a:et):ag6:=if KW a=bp then mW (QY a) else bo
theorem jD:(gA b==0)=br (b=0):=by rw[gH,cu];unfold gA;omega
theorem Jo {m:Z} {n:X} (e:aL m.natAbs<=1900000) (f:n<=1048576):wU (aT m,(n:Z),())=Y (aT (m/2^n),()):=by
 unfold wU;dsimp only;refine bP.1 ?_;refine ae.aK (P:=λc=>c=((n:Z),aT m,(bq,([],())),())) ?_ ?_
 ·refine ae.steps 0 (λb a=>a=((n:Z),aT m,(bq,([],())),())) rfl (λb a d=>by omega) ?_;rintro _ rfl;dsimp only;rw[a1 (aF (aa:¬((n:Z)>1048576)))];grind [bu]
 grind [cK,ala,ae.bs,Ju,bu,xW]
theorem PV {b:pq} {m:Z} (d:aQ b.2.1) (s:b.2.1.length<=100000000) (h:hl b=m) (E:aL m.natAbs<=900000) (w:-1000000000000<=e) (z:e<=1000000000000):o3 (b,e,())=Y (az (hE m e),()):=by
 unfold o3;dsimp only;have g:=P1 d s;rw[h] at g;refine ah g ?_;dsimp only;rw[sW,cQ];split
 ·rename_i a;have:=w2.1 a;subst this;rfl
 rename_i a;have f:m≠0:=λe=>a (w2.2 e);have F:=rI (n:=m.natAbs) aa;have D:=pQ (m:=m.natAbs) aa;rw[cQ];split
 ·rename_i i;have c:hE m e=bo:=(by unfold hE;grind);rw[c];rfl
 rename_i i;refine ah (Qg aa f) (ah (Aw aa) (ah (Jo (m:=(m.natAbs:Z)) (by grind) aa) ?_));have r:=(sR (n:=m.natAbs) (k:=cN m.natAbs) aa).1 (cc _);have p:(m.natAbs:Z)/2^cN m.natAbs=(((m/2^cN m.natAbs).natAbs:X):Z):=(by grind [Ac,xL,ake]);have o:aL ((m/2^cN m.natAbs).natAbs)=aL m.natAbs-cN m.natAbs:=(by rw[Ac r,wl]);rw[p];dsimp only;rw[cK (x:=e+(cN m.natAbs:Z)) aa aa];by_cases q:e+cN m.natAbs< -65536\/65536<e+aL m.natAbs
 ·have c:hE m e=bo:=(by simp_all [aw,au,hE]);rw[c];refine ah (y:=.inr (az bo,())) ?_ bn;refine ah (y:=(bp,(bq,((bq,([],())),((0:Z),()))),aT ((m/2^cN m.natAbs).natAbs:Z),())) ?_ bn;by_cases j:e+(cN m.natAbs:Z)< -65536
  ·grind
  rw[aF j];refine ah (Ax (by grind)) ?_;rw[akf,o];dsimp only;rw[cK aa aa,aH (aa:e+(cN m.natAbs:Z)+((aL m.natAbs-cN m.natAbs:X):Z)>65536)]
 obtain⟨l,A⟩:=Mo f q;rw[l];refine ah (y:=.inl ((bq,((bq,([],())),((0:Z),()))),aT ((m/2^cN m.natAbs).natAbs:Z),())) ?_ ?_
 ·refine ah (y:=(bq,(bq,((bq,([],())),((0:Z),()))),aT ((m/2^cN m.natAbs).natAbs:Z),())) ?_ bn;rw[aF (aa:¬(e+(cN m.natAbs:Z)< -65536))];refine ah (Ax (by grind)) ?_;grind [cK,aF,akf]
 dsimp only;congr 3;have t:b.1=br (m/2^cN m.natAbs<0):=(by have B:(m/2^cN m.natAbs<0)↔m<0:=u4 (v:=m);have C:b.1=br (m<0):=(by have u:=e7 d;unfold hl at h;grind);grind);rw[t];rfl
def xR {e:Z} (d:aL b.natAbs<=900000) (a:-1000000000000<=e) (c:e<=1000000000000):o3 (aT b,e,())=Y (az (hE b e),()):=
 PV (ms b) (by have:=(hU (z:=b) aa).2.2;omega) (oC b) d a c
def ov {d:ag6} (c:cL d):mr (az d,())=Y (az d,()):=by
 cases d with
 |none=>rfl
 |some b=>
  have a:=c b bn;have f:=kn a;have g:=kN a;unfold mr;rw[hB];refine ah (xR (e:=eI b) aa aa aa) ?_;rw[D5 a,hB]
theorem q4 (a:ag6):(az a).1=!a.isSome:=by
 cases a with
 |none=>rfl
 |some b=>rw[hB];rfl
def Jp (a:cL k):wT (az k,())=Y (vj k,()):=by
 unfold wT;refine ah (ov a) ?_;cases k with
 |none=>rfl
 |some b=>
  have c:=kn (a b bn);rw[hB];refine ah (lF aa) ?_;show Y (gA (cE b),())=_;rw[Qr];rfl
theorem abO (b:cL k):CT (az k,())=Y (az (c4 k),()):=by
 unfold CT;refine ah (ov b) ?_;cases k with
 |none=>rfl
 |some a=>
  have c:=b a bn;have f:=kn c;have g:=kN c;rw[hB];refine ah (P0 aa) (ah (xR (e:=eI a) (by grind) aa aa) ?_);have d:fO (-a):=(by grind [ajr,fO]);rw[<-II,<-Hp,D5 d];rfl
theorem abJ (b:cL k):GJ (az k,())=Y (az (Bn k),()):=by
 unfold GJ;refine ah (ov b) ?_;cases k with
 |none=>rfl
 |some a=>
  have c:=b a bn;have f:=kn c;have g:=kN c;rw[hB];refine ah (Aw aa) (ah (xR (e:=eI a) (by grind) aa aa) ?_);have d:fO (a.natAbs:Z):=(by grind [akf,fO]);rw[<-XR,<-UG,D5 d];rfl
theorem Rc (a:Z):jU 0 a=0:=by unfold jU;rw[Af,oI]
theorem Fa (a:Z):jU a (eI a)=cE a:=by grind [jU]
theorem KT (g:fO b) (h:fO e):∃a,(b=0\/a<=eQ b)/\(e=0\/a<=eQ e)/\-65536<=a/\a<=65536/\sv (az (Y b),az (Y e),())=Y (aT (jU b a),aT (jU e a),a,()):=by
 have k:=kN g;have l:=kN h;have i:=kn g;have j:=kn h;by_cases c:b=0
 ·subst c;refine⟨eI e,.inl bn,mu (aiW _),aa,aa,?_⟩;unfold sv;rw[hB,hB];refine ah (lF aa) ?_;grind [jD,aH,Rc,Fa]
 by_cases d:e=0
 ·subst d;refine⟨eI b,mu (aiW _),.inl bn,aa,aa,?_⟩;unfold sv;rw[hB,hB];refine ah (lF aa) ?_;dsimp only;rw[jD,aF (jA c)];refine ah (lF aa) ?_;grind [jD,aH,Rc,Fa]
 by_cases f:eI b>eI e
 ·refine⟨eI e,mu aa,mu (aiW _),aa,aa,?_⟩;unfold sv;rw[hB,hB];refine ah (lF aa) ?_;dsimp only;rw[jD,aF (jA c)];refine ah (lF aa) ?_;dsimp only;rw[jD,aF (jA d),aH f,cK aa aa,Fa];refine ah (Ju aa aa aa) ?_;grind [pi,jU,eI]
 refine⟨eI b,mu (aiW _),mu aa,aa,aa,?_⟩;unfold sv;rw[hB,hB];refine ah (lF aa) ?_;dsimp only;rw[jD,aF (jA c)];refine ah (lF aa) ?_;dsimp only;rw[jD,aF (jA d),aF f,cK (x:=eI e-eI b) aa aa,Fa];refine ah (Ju aa aa aa) ?_;grind [pi,jU,eI]
theorem Az (h:cL k) (f:cL n):ss (az k,az n,())=Y (az (cH k n),()):=by
 unfold ss;refine ah (ov h) (ah (ov f) ?_);cases k with
 |none=>rfl
 |some a=>
  cases n with
  |none=>dsimp only;rw[hB a];rfl
  |some c=>
   have i:=h a bn;have j:=f c bn;obtain⟨b,ao,g,d,p,o⟩:=KT i j;have l:=tn ao d i;have m:=tn g d j;refine ah (y:=.inl (az (Y a),az (Y c),(bq,((bq,([],())),((0:Z),()))),())) ?_ ?_
   ·grind [q4]
   dsimp only;refine ah o (ah (Ji aa aa) ?_);have f:aL (jU a b+jU c b).natAbs<=131073:=cA (lX (amq _ _)) (FZ l m);refine ah (xR (e:=b) aa aa aa) ?_;rw[N4 d ao g];rfl
def AA (b:cL k) (a:cL n):su (az k,az n,())=Y (az (cH k (c4 n)),()):=by unfold su;exact ah (abO a) (ah (Az b (Oj a)) rfl)
def kM (a:cL k) (b:cL n):kD (az k,az n,())=Y (az (cT k n),()):=by
 unfold kD;refine ah (ov a) (ah (ov b) ?_);cases k with
 |none=>rfl
 |some c=>
  cases n with
  |none=>dsimp only;rw[hB c];rfl
  |some d=>
   have e:=kn (a c bn);have f:=kn (b d bn);have g:=kN (a c bn);have h:=kN (b d bn);rw[hB,hB];refine ah bn ?_;dsimp only;refine ah (ab2 aa aa) ?_;dsimp only;rw[cK aa aa];refine ah (xR ?_ aa aa) rfl;rw[amp];have:=Bz e f;omega
theorem abK (f:fO e) (g:fO b):GK (az (Y e),az (Y b),())=Y (fE e b,bp,()):=by
 unfold GK;refine ah (ov (d:=Y e) (λl i=>by grind)) (ah (ov (d:=Y b) (λl i=>by grind)) ?_);obtain⟨o,ao,c,a,p,h⟩:=KT f g;have m:=tn ao a f;have n:=tn c a g;refine ah (y:=.inl (az (Y e),az (Y b),())) ?_ ?_
 ·dsimp only;rw[q4,q4];rfl
 dsimp only;refine ah h (ah (abB aa aa) ?_);have j:=J6 a ao c;have k:=J6 a c ao;dsimp only;unfold fE;simp only[j,k]
def Jn (a:-9223372036854775808<=b) (c:b<=9223372036854775807):wS (b,())=Y (az (jx b),()):=by unfold wS;have d:aL b.natAbs<=64:=gp.2 aa;exact ah (Js a c) (ah (xR aa ab ab) rfl)
def a8 (a:Z):Z:=a/4503599627370496 %2048
def fb (a:Z):Z:=a %4503599627370496
def eJ (a:Z):Prop:=0<=a/\a<18446744073709551616
def a2 (a:Z):ag6:=
 if a8 a=2047 then bo
 else hE (if a<9223372036854775808 then if a8 a=0 then fb a else fb a+4503599627370496 else-(if a8 a=0 then fb a else fb a+4503599627370496)) (if a8 a=0 then-1074 else a8 a-1075)
theorem gr (b:Z):cL (a2 b):=by
 intro c a;unfold a2 at a;split at a
 ·cases a
 exact Is _ _ c a
def Ja (a:eJ b):wC (b,())=Y (a8 b,fb b,()):=by unfold wC;dsimp only;have c:=a.1;have d:=a.2;rw[vl ab ab,bN,show(2:Z)^(52:Z).toNat=4503599627370496 from rfl,r7 11 aa aa 2047 ab ab,r7 52 aa aa 4503599627370495 ab ab,cK aa aa];rfl
theorem Ll (g:eJ b):(ey bC b 9223372036854775808 !=0)=br (9223372036854775808<=b):=by
 obtain⟨c,j⟩:=g;obtain⟨a,rfl⟩:=gg c;have f:a<18446744073709551616:=aa;have d:(9223372036854775808:Z)=((2^63:X):Z):=rfl;rw[d,K0 f ab,gb];rcases cS a (2^63) with e|e
 ·have h:a&&&2^63=0:=by
   refine al9 λk=>?_;rw[ama,akT,Nat.zero_testBit];grind
  grind
 have h:a&&&2^63≠0:=(by intro i;have c:(a&&&2^63).testBit 63=bq:=(by grind);grind);grind
theorem Xu (a:eJ b):BR (b,())=Y (br (9223372036854775808<=b),()):=by grind [Ll,BR]
theorem zU {f:Z} (a:eJ f):nz (f,())=Y (!br (a8 f=2047),()):=by simp_all [gb,ah,Ja,nz]
def jy (a:Z):Z:=if a8 a=2047 then if fb a=0 then 2 else 3 else if a8 a=0/\fb a=0 then 0 else 1
theorem Wi (a:eJ b):BO (b,())=Y (jy b,()):=by unfold BO jy;refine ah (Ja a) ?_;grind
theorem sG (a:Z):0<=fb a/\fb a<4503599627370496:=by grind [fb]
theorem w5 (a:Z):0<=a8 a/\a8 a<2048:=by grind [a8]
theorem qc (g:eJ b):j2 (b,())=Y (az (a2 b),()):=by
 unfold j2 a2;have o:=sG b;have n:=w5 b;refine ah (Ja g) ?_;dsimp only;rw[gH,gH];by_cases e:a8 b=2047
 ·rw[aH e,au e];rfl
 rw[aF e,aw e];obtain⟨a,d,h,i,j,k,l,f⟩:∃a d,(bif br (a8 b=0) then some (Sum.inl ((-1074:Z),fb b,((false,((false,([],())),((0:Z),()))):fL),())) else some (.inl (ay (a8 b-1075),fN bC (fb b) 4503599627370496,(false,((false,([],())),((0:Z),()))),())):bv ((Z×Z×fL×bt)⊕hh))=some (.inl (d,a,(false,((false,([],())),((0:Z),()))),()))/\0<=a/\a<9007199254740992/\-1074<=d/\d<=972/\(a=(if a8 b=0 then fb b else fb b+4503599627370496)/\d=(if a8 b=0 then-1074 else a8 b-1075)):=by
  by_cases c:a8 b=0
  ·refine⟨fb b,-1074,?_,aa,aa,aa,aa,by rw[au c],by rw[au c]⟩;grind
  refine⟨fb b+4503599627370496,a8 b-1075,?_,aa,aa,aa,aa,by rw[aw c],by rw[aw c]⟩;rw[aF c,cK aa aa,m3 52 aa aa aa aa aa ab];rfl
 rw[<-f.1,<-f.2];refine ah h ?_;dsimp only;rw[cK aa aa];have m:aL a.natAbs<=53:=gp.2 aa;refine ah (DA aa aa) ?_;refine ah (y:=((bq,((bq,([],())),((0:Z),()))),aT (if b<9223372036854775808 then a else-a),())) ?_ ?_
 ·refine ah (Xu g) ?_;dsimp only;by_cases c:b<9223372036854775808
  ·grind
  rw[aH (aa:9223372036854775808<=b),aw c];exact ah (Ol (jO aa)) rfl
 dsimp only;refine ah (D1 ?_ aa aa) rfl;grind
def o5 (d:bA) (a:X) (b:Z) (c:bA):wb:=(d,aT (a:Z),b,c,())
theorem om (a:X):(a:Z).natAbs=a:=by omega
theorem WM (e:aL a<=900000) (c:-10000000<=b) (d:b<=10000000):BM (o5 m a b h,())=Y (b+aL a-1,()):=by unfold BM o5;refine ah (wk (jO (by grind))) ?_;grind [cK,om]
theorem TQ {t:bA} (l:aL a<=900000) (u:0<a) (B:0<c) (C:c<=10000000):yO (o5 t a b h,(c:Z),())=Y (aT ((a/2^c:X):Z),kC a c h,br (a %2^c=0)&&!h,()):=by
 unfold yO o5;refine ah (wk (jO (by grind))) ?_;rw[om];dsimp only;have D:=aji c;rw[cQ];split
 ·rename_i p;have q:a<2^(c-1):=gp.1 aa;obtain⟨d,rfl⟩:∃d,c=d+1:=⟨c-1,aa⟩;simp only[amh] at q;have ao:a %2^(d+1)=a:=Nat.mod_eq_of_lt aa;have g:a/2^(d+1)=0:=alb aa;rw[ao,g];have i:kC a (d+1) h=-1:=(by unfold kC;omega);rw[i,aF (aa:¬a=0)];rfl
 rename_i p;have w:=ajS a (2^c);have E:aL (a/2^c)<=900000:=cA (lX (alc _ _)) l;have F:aL (a %2^c)<=900000:=cA (lX (ald _ _)) l;have r:a/2^c*2^c<=a:=Nat.div_mul_le_self _ _;refine ah (PT (m:=(a:Z)) (n:=c) (by grind) aa) ?_;have ao:(a:Z)/2^c=((a/2^c:X):Z):=(by grind);rw[ao];refine ah (zY (m:=((a/2^c:X):Z)) (k:=(c:Z)) (by grind) aa aa) ?_;have g:((a/2^c:X):Z)*2^(c:Z).toNat=((a/2^c*2^c:X):Z):=(by grind);rw[g];refine ah (ac1 (x:=(a:Z)) (y:=((a/2^c*2^c:X):Z)) (by grind) (by rw[om];exact cA (lX r) aa)) ?_;have i:(a:Z)-((a/2^c*2^c:X):Z)=((a %2^c:X):Z):=(by grind);rw[i];refine ah (DA (n:=1) ab ab) ?_;dsimp only;rw[cK (x:=(c:Z)-1) aa aa];refine ah (zY (m:=1) (k:=(c:Z)-1) ab aa aa) ?_;obtain⟨d,rfl⟩:∃d,c=d+1:=⟨c-1,aa⟩;have o:(1:Z)*2^(((d+1:X):Z)-1).toNat=((2^d:X):Z):=(by grind);rw[o];have A:aL (2^d)<=900000:=(by have:aL (2^d)<=d+1:=gp.2 (al3 ab aa);omega);refine ah (LJ (x:=((a %2^(d+1):X):Z)) (y:=((2^d:X):Z)) (by grind) (by grind)) ?_;dsimp only;have v:(if fE ((a %2^(d+1):X):Z) ((2^d:X):Z)=0/\h=bp then 1 else fE ((a %2^(d+1):X):Z) ((2^d:X):Z))=kC a (d+1) h:=by
  unfold kC fE;have s:2^(d+1)=2*2^d:=aa;generalize a %2^(d+1)=f at*;rw[s];generalize 2^d=e at*;rcases qE f e with j|j|j
  ·rw[au (aa:(f:Z)<(e:Z)),aw ac,au aa]
  ·grind
  rw[aw (aa:¬((f:Z)<(e:Z))),au (aa:(e:Z)<(f:Z)),aw ac,aw aa,au aa]
 refine ah (y:=(kC a (d+1) h,aT ((a/2^(d+1):X):Z),aT ((a %2^(d+1):X):Z),())) ?_ ?_
 ·grind
 refine ah (th (z:=((a %2^(d+1):X):Z)) (jO (by grind))) ?_;grind [aF,aH,jD]
theorem Ag {n:X}:(n≠0/\cN n=0)↔n %2=1:=by
 constructor
 ·rintro⟨b,c⟩;have:=sR (n:=n) (k:=1) aa;omega
 intro a;refine⟨aa,?_⟩;have:=sR (n:=n) (k:=1) aa;omega
theorem Xp (l:aL a<=900000) (w:0<a) (G:-1000000<=b-e) (H:b-e<=1000000):BN (o5 m a b h,e,u,())=Y (aT (if m then-((if e<=b then a*2^(b-e).toNat else hV m a (e-b).toNat h u:X):Z) else((if e<=b then a*2^(b-e).toNat else hV m a (e-b).toNat h u:X):Z)),()):=by
 unfold BN;have k:∀d:X,aL d<=2000000->(bB (α:=lr) (
  bif m then
 (sl (aT (d:Z),())).bind λ(E,_)=>
 Y (((bq,([],())):eX),E,()) else
 Y ((bq,([],())),aT (d:Z),())) λ(_,D,_)=>
 Y (D,()))=Y (aT (if m then-(d:Z) else(d:Z)),()):=λd J=>by
  cases m
  ·rfl
  refine ah (y:=((bq,([],())),aT (-(d:Z)),())) ?_ bn;have I:Fit (d:Z)\/True:=.inr trivial;have o:=hU (z:=(d:Z)) (by grind);refine ah (y:=(aT (-(d:Z)),())) ?_ bn;unfold sl;refine ah (yI (by have:=o.2.2;omega)) (ah (wi (ms _) (by have:=o.2.2;omega)) ?_);grind [oC,Ff]
 by_cases i:e<=b
 ·rw[au i];obtain⟨c,f⟩:∃c:X,b-e=c:=⟨(b-e).toNat,aa⟩;rw[f,fA];refine ah (y:=((-1:Z),bp,(bq,([],())),aT ((a*2^c:X):Z),())) ?_ ?_
  ·show(bif br (e<=b) then _ else _)=_;rw[aH i];refine ah (y:=(aT ((a*2^c:X):Z),())) ?_ bn;show o1 (aT (a:Z),ay (b-e),())=_;rw[cK aa aa,zY (by grind [om]) aa aa,f,fA,yh,xL]
  refine ah bn (ah bn ?_);exact k _ (dh yD aa)
 rw[aw i];obtain⟨c,f⟩:∃c:X,e-b=c:=⟨(e-b).toNat,aa⟩;rw[f,fA];refine ah (y:=(kC a c h,br (a %2^c=0)&&!h,(bq,([],())),aT ((a/2^c:X):Z),())) ?_ ?_
 ·show(bif br (e<=b) then _ else _)=_;rw[aF i];refine ah (y:=(aT ((a/2^c:X):Z),kC a c h,br (a %2^c=0)&&!h,())) ?_ bn;show yO (o5 m a b h,ay (e-b),())=_;rw[cK aa aa,f];exact TQ l w aa aa
 have A:aL (a/2^c)<=900000:=dh (lX (yr _ _)) l;refine ah (y:=(!(br (a %2^c=0)&&!h)&&vw m (kC a c h) (br (a/2^c %2=1)) u,(bq,([],())),aT ((a/2^c:X):Z),())) ?_ ?_
 ·dsimp only;cases q:(br (a %2^c=0)&&!h) with
  |true=>rfl
  |false=>
   show(bif u==1 then Y (m,_,_,()) else _)=_;unfold vw;rw[gH,gH,gH];by_cases r:u=1
   ·grind
   rw[aF r,aw r];by_cases j:u=2
   ·rw[aH j,au j];rfl
   rw[aF j,aw j];by_cases s:u=3
   ·grind
   rw[aF s,aw s];generalize kC a c h=g;show(bif br (g>0)==bq then _ else _)=_;by_cases v:g>0
   ·grind
   rw[aF v];show(bif (g==0)==bp then _ else _)=_;rw[gH];by_cases t:g=0
   ·rw[aH t];refine ah (th (z:=((a/2^c:X):Z)) (jO (by grind [om]))) ?_;dsimp only;have K:=Ag (n:=a/2^c);rw[gb];by_cases F:a/2^c=0
    ·rw[aH (show gA ((a/2^c:X):Z)=0 by rw[F];rfl),aF (aa:¬(a/2^c %2=1))];rfl
    have B:gA ((a/2^c:X):Z)≠0:=(by unfold gA;omega);rw[aF B];refine ah (Rb (z:=((a/2^c:X):Z)) (jO (by grind [om])) aa) ?_;rw[om];simp_all [aF,aH,gH,cN]
   grind
 dsimp only;refine ah (y:=((bq,([],())),aT ((hV m a c h u:X):Z),())) ?_ ?_
 ·unfold hV;by_cases q:a %2^c=0/\h=bq
  ·simp_all
  have C:(br (a %2^c=0)&&!h)=bq:=(by grind);rw[aw q,C];by_cases p:vw m (kC a c h) (br (a/2^c %2=1)) u=bp
  ·rw[au p,p];refine ah (DA (n:=1) ab ab) ?_;refine ah (KR (x:=((a/2^c:X):Z)) (y:=1) (by grind [om]) ab) ?_;rfl
  simp_all
 refine k _ ?_;have:hV m a c h u<=a/2^c+1:=(by unfold hV;grind);exact dh (lX this) (dh (FZ A (ab:aL 1<=900000)) aa)
def AP (a:0<=b) (c:b<9223372036854775808):ui (b,h,())=Y (i6 h b,()):=by
 unfold ui i6;cases h
 ·rfl
 dsimp only;rw[m3 63 a (by exact c) ab aa ab ab,aj5];rfl
theorem Pm:BS (h,b,())=Y (qe h b,()):=by
 unfold BS qe;dsimp only;refine ah (y:=if(b=3\/(b=1/\h=bq)\/(b=2/\h=bp)) then .inr (i6 h 9218868437227405311,()) else .inl ()) ?_ ?_
 ·refine ah (y:=(br (b=3\/(b=1/\h=bq)\/(b=2/\h=bp)),())) ?_ ?_
  ·rw[gH,gH,gH];by_cases e:b=3
   ·grind
   by_cases c:b=1
   ·grind
   by_cases d:b=2
   ·simp_all
   grind
  dsimp only;by_cases a:(b=3\/(b=1/\h=bq)\/(b=2/\h=bp))
  ·rw[aH a,au a];exact ah (AP ab ab) rfl
  grind
 by_cases a:(b=3\/(b=1/\h=bq)\/(b=2/\h=bp))
 ·rw[au a,au a]
 rw[aw a,aw a];exact ah (AP ab ab) rfl
theorem Fb {neg s3:bA} {e oi:Z} (d:0<a):(if c7 a e<=e then a*2^(e-c7 a e).toNat else hV neg a (c7 a e-e).toNat s3 oi)<=9007199254740992:=by
 have f:=gp.1 (bd (aL a));have h:=pQ d;have i:e+aL a-53<=c7 a e:=(by grind [c7]);split
 ·rename_i c;have b:a*2^(e-c7 a e).toNat<2^aL a*2^(e-c7 a e).toNat:=Nat.mul_lt_mul_of_pos_right f (jG _);rw[<-jf] at b;have g:2^(aL a+(e-c7 a e).toNat)<=2^53:=tL ab aa;omega
 rename_i c;have b:a/2^(c7 a e-e).toNat<2^53:=(by rw[ajR (jG _),<-jf];grind [Nat.lt_of_lt_of_le,Nat.pow_le_pow_right]);grind [hV]
theorem P7 (r:aL a<=800000) (i:0<a) (p:-500000<=b) (q:b<=500000):yS (o5 h a b m,u,())=Y (k6 h a b m u,()):=by
 have s:=pQ i;have t:=Fb (neg:=h) (s3:=m) (oi:=u) (e:=b) i;have n:k6 h a b m u=kl h (if c7 a b<=b then a*2^(b-c7 a b).toNat else hV h a (c7 a b-b).toNat m u) (c7 a b) u:=(by grind [k6]);have o:c7 a b=if(-1074:Z)>b+aL a-1-52 then-1074 else b+aL a-1-52:=by grind [c7]
 have w:-1074<=c7 a b:=aa;have A:c7 a b<=1400000:=aa;unfold yS;refine ah (WM aa aa aa) ?_;dsimp only;rw[cK aa aa,<-o,n];refine ah (Xp aa i ?_ ?_) ?_
 ·omega
 ·omega
 generalize(if c7 a b<=b then a*2^(b-c7 a b).toNat else hV h a (c7 a b-b).toNat m u)=c at*;generalize c7 a b=d at*;have v:aL c<=54:=gp.2 aa;have l:(if h then-(c:Z) else(c:Z)).natAbs=c:=aa;refine ah (Bo (jO (by grind))) ?_;rw[l];refine ah (V6 (z:=(c:Z)) aa aa) ?_;dsimp only;rw[fo (x:=(c:Z)) aa aa,gH];show bB _ _=Y (kl h c d u,());unfold kl;by_cases j:c=9007199254740992
 ·rw[aH (aa:(c:Z)=9007199254740992),aw (aa:¬c<4503599627370496),au j];refine ah (y:=(d+1,4503599627370496,())) ?_ ?_
  ·grind [cq]
  dsimp only;rw[aF (aa:¬((4503599627370496:Z)<4503599627370496)),cK aa aa,bO,cQ];split
  ·rename_i g;exact ah Pm bn
  rename_i g;rw[fo aa aa,nR ab ab,show(2:Z)^(52:Z).toNat=4503599627370496 from rfl,aC];have ao:aJ (4503599627370496-4503599627370496)=0:=(by grind [fo]);have f:(d+1+1075)*4503599627370496 %18446744073709551616=(d+1+1075)*4503599627370496:=aa;rw[ao,f,Am,m3 52 ab ab aa ab aa aa,aiz];exact ah (AP aa aa) rfl
 rw[aF (aa:¬(c:Z)=9007199254740992)];refine ah (y:=(d,(c:Z),())) rfl ?_;dsimp only;rw[cQ];by_cases k:c<4503599627370496
 ·rw[au (aa:(c:Z)<4503599627370496),au k];exact ah (AP aa aa) rfl
 rw[aw (aa:¬(c:Z)<4503599627370496),aw k,aw j,cK aa aa,cQ];split
 ·rename_i g;exact ah Pm bn
 rename_i g;rw[fo (x:=d+1075) aa aa,nR ab ab,show(2:Z)^(52:Z).toNat=4503599627370496 from rfl,bN,fo (x:=(c:Z)-4503599627370496) aa aa];have f:(d+1075)*4503599627370496 %18446744073709551616=(d+1075)*4503599627370496:=aa;rw[f,Am,m3 52 aa aa aa aa aa aa];refine ah (AP aa aa) ?_;dsimp only;congr 3;omega
def fV (c d:ag6) (e:Z):Z:=match c,d with
 |some a,Y b=>if b=0 then 9221120237041090560 else if a=0 then 0 else vc a b e
 |_,_=>9221120237041090560
def EM (b:ag6) (c:Z):Z:=match b with
 |some a=>if a<0 then 9221120237041090560 else if a=0 then 0 else Jt a c
 |none=>9221120237041090560
def xD (a:Z):(aT (cE a)).1=br (a<0):=by show br (cE a<0)=_;rw[cu];exact u4
theorem abx (h:fO b) (i:fO e) (z:b≠0) (A:e≠0) (j:Z):∃c d k,BL (az (Y b),az (Y e),56,())=Y (o5 (br (b<0)!=br (e<0)) c d k,())/\0<c/\aL c<=800000/\-500000<=d/\d<=500000/\k6 (br (b<0)!=br (e<0)) c d k j=vc b e j:=by
 have q:=kn h;have r:=kn i;have s:=kN h;have t:=kN i;have n:0<(cE b).natAbs:=(by grind [jA]);have o:0<(cE e).natAbs:=(by grind [jA]);obtain⟨a,p⟩:∃a,a=m4 (cE b).natAbs (cE e).natAbs:=⟨_,bn⟩;have v:a<=131131:=(by grind [m4]);have g:58<=aL ((cE b).natAbs*2^a/(cE e).natAbs):=EB n o (by grind [m4]);have u:aL ((cE b).natAbs*2^a)<=262203:=(by grind [yD]);refine⟨(cE b).natAbs*2^a/(cE e).natAbs,eI b-a-eI e,br ((cE b).natAbs*2^a %(cE e).natAbs≠0),?_,?_,?_,aa,aa,?_⟩
 ·unfold BL;rw[hB,hB];refine ah (wk (jO aa)) (ah (wk (jO aa)) (ah (Bo (jO aa)) ?_));dsimp only;have ao:(if ay (ay (ay (56+3)+(aL (cE e).natAbs:Z))-(aL (cE b).natAbs:Z))>0 then ay (ay (ay (56+3)+(aL (cE e).natAbs:Z))-(aL (cE b).natAbs:Z)) else 0)=(a:Z):=by
   grind [cK,m4,aL,cE]
  rw[ao];refine ah (zY (m:=((cE b).natAbs:Z)) (by grind) aa aa) (ah (Bo (jO aa)) ?_);have l:((cE b).natAbs:Z)*2^(a:Z).toNat=(((cE b).natAbs*2^a:X):Z):=(by grind);rw[l];refine ah (T4 (x:=(((cE b).natAbs*2^a:X):Z)) (y:=((cE e).natAbs:Z)) (by grind) (by grind) aa aa) ?_;rw[<-ake,<-amr];have w:aL ((cE b).natAbs*2^a %(cE e).natAbs)<=900000:=cA (lX (ald _ _)) aa;refine ah (th (jO (by grind))) ?_;dsimp only;rw[cK (x:=eI b-(a:Z)) aa aa,cK aa aa,xD,xD];grind [jD,aH,aF,gA,cE,decide,o5]
 ·rcases n0 ((cE b).natAbs*2^a/(cE e).natAbs) with f|f
  ·rw[f] at g;exact absurd g ab
  omega
 ·exact dh (lX (yr _ _)) aa
 unfold vc rz;rw[<-p];congr 1;unfold eI;omega
theorem Vh (e:cL n) (d:cL k):sj (az n,az k,b,())=Y (fV n k b,()):=by
 unfold sj;refine ah (Hd e) (ah (Hd d) ?_);dsimp only;rw[q4,q4];cases n with
 |none=>cases k<;>rfl
 |some c=>
  cases k with
  |none=>rfl
  |some a=>
   by_cases f:a=0
   ·subst f;refine ah (y:=.inr (9221120237041090560,())) ?_ bn;refine ah (y:=(bp,az (Y c),az (Y 0),())) ?_ bn;refine ah (o4 d) ?_;rfl
   by_cases g:c=0
   ·subst g;refine ah (y:=.inr (0,())) ?_ ?_
    ·refine ah (y:=(bq,az (Y 0),az (Y a),())) ?_ ?_
     ·refine ah (o4 d) ?_;dsimp only;rw[show vj (Y a)=gA a from rfl,jD,aF f]
     refine ah (o4 e) ?_;rfl
    simp_all [aw,fV]
   obtain⟨h,i,r,j,l,m,o,p,q⟩:=abx (e c bn) (d a bn) g f b;refine ah (y:=.inl (az (Y c),az (Y a),())) ?_ ?_
   ·refine ah (y:=(bq,az (Y c),az (Y a),())) ?_ ?_
    ·refine ah (o4 d) ?_;dsimp only;rw[show vj (Y a)=gA a from rfl,jD,aF f]
    refine ah (o4 e) ?_;dsimp only;rw[show vj (Y c)=gA c from rfl,jD,aF g];rfl
   simp_all [ah,P7,aw,fV]
theorem aci:qZ (aT 0,())=Y (0,()):=by
 unfold qZ;refine ah (te (l:=[]) aQ.nil (λf b=>by cases b) ab) ?_;refine bP.1 (ae.aK (P:=λd=>d=.inl ()) ?_ ?_)
 ·refine ae.steps 0 (λc a=>a=((0:Z),())) rfl (λc a e=>by omega) ?_;grind [bu]
 grind [bu]
theorem P2 {n:X} (c:aL n<=900000):∃a,qZ (aT (n:Z),())=Y (a,())/\((a=0/\n≠0)↔n %2=1):=by
 by_cases b:n=0
 ·grind [aci]
 refine⟨(cN n:Z),?_,?_⟩
 ·grind [om,Qg]
 grind [Ag]
theorem adC:CU (h,b,m,e,())=Y (vw h b m e,()):=by unfold CU vw;grind
theorem abD {f:bA} (q:aL a<=800000) (C:c<=1000000):CS (f,aT (a:Z),(c:Z),h,b,())=Y (aT ((hV f a c h b:X):Z),()):=by
 unfold CS;have g:∀e:X,(a:Z)/2^e=((a/2^e:X):Z):=λe=>(by rw[<-xL,<-ake]);have o:∀e:X,br (((a:Z).natAbs:Z) %2^e≠0)=br (a %2^e≠0):=λe=>(by grind);have E:∀e,aL (a/2^e)<=800000:=λe=>cA (lX (alc _ _)) q;refine ah (Jo (m:=(a:Z)) (n:=c) (by grind) aa) ?_;rw[g];refine ah (PU (z:=(a:Z)) (n:=c) (by grind) aa) ?_;rw[o];dsimp only;by_cases v:a %2^c=0/\h=bq
 ·simp_all [au,aF,ah,hV,aT]
 refine ah (y:=.inl ((bq,([],())),aT ((a/2^c:X):Z),())) ?_ ?_
 ·grind
 dsimp only;refine ah (y:=(kC a c h,(bq,([],())),aT ((a/2^c:X):Z),())) ?_ ?_
 ·rw[cQ];split
  ·rename_i p;obtain⟨d,rfl⟩:∃d,c=d+1:=⟨c-1,aa⟩;have l:ay (((d+1:X):Z)-1)=(d:Z):=(by grind [cK]);rw[l];refine ah (Jo (m:=(a:Z)) (n:=d) (by grind) aa) ?_;rw[g];obtain⟨k,i,t⟩:=P2 (n:=a/2^d) (by grind);have r:=Iv a d 1;rw[Nat.pow_one] at r;have B:=aiI a (jG d);have D:2^(d+1)=2*2^d:=aa;refine ah (y:=(br (a/2^d %2=1),(bq,([],())),aT ((a/2^(d+1):X):Z),())) ?_ ?_
   ·refine ah i ?_;dsimp only;rw[gH];by_cases w:k=0
    ·rw[aH w];refine ah (lF (z:=((a/2^d:X):Z)) (by grind)) ?_;grind [jD,aH,aF]
    grind
   dsimp only;unfold kC;by_cases s:a/2^d %2=1
   ·rw[aH s];have u:a %2^(d+1)=2^d+a %2^d:=(by grind);rw[u,aw aa];cases h
    ·show(bB _ _)=_;refine ah (PU (z:=(a:Z)) (n:=d) (by grind) aa) ?_;grind
    grind
   grind
  rename_i p;obtain rfl:c=0:=aa;simp_all [au,Nat.pow_zero,Nat.mod_one,kC]
 dsimp only;obtain⟨k,i,t⟩:=P2 (n:=a/2^c) (by grind);refine ah (y:=(br (a/2^c %2=1),(bq,([],())),aT ((a/2^c:X):Z),())) ?_ ?_
 ·refine ah (lF (z:=((a/2^c:X):Z)) (by grind)) ?_;dsimp only;have A:(gA ((a/2^c:X):Z)!=0)=br (a/2^c≠0):=by
   grind [aF,aH,jD]
  grind
 dsimp only;refine ah (y:=((bq,([],())),aT ((hV f a c h b:X):Z),())) ?_ bn;refine ah adC ?_;dsimp only;unfold hV;rw[cf v];by_cases j:vw f (kC a c h) (br (a/2^c %2=1)) b=bp
 ·rw[au j,j];refine ah (Js (n:=1) ab ab) ?_;refine ah (Ji (x:=((a/2^c:X):Z)) (y:=1) (by grind) ab) ?_;rfl
 grind
def AI (a:0<=b) (c:b<9223372036854775808):q0 (h,b,())=Y (i6 h b,()):=by
 unfold q0 i6;cases h
 ·rfl
 dsimp only;rw[m3 63 a (by exact c) ab aa ab ab,aj5];rfl
theorem P8:zm (h,b,())=Y (qe h b,()):=by
 unfold zm qe;dsimp only;refine ah (y:=if(b=3\/(b=1/\h=bq)\/(b=2/\h=bp)) then .inr (i6 h 9218868437227405311,()) else .inl ()) ?_ ?_
 ·refine ah (y:=(br (b=3\/(b=1/\h=bq)\/(b=2/\h=bp)),())) ?_ ?_
  ·rw[gH,gH,gH];by_cases e:b=3
   ·grind
   by_cases c:b=1
   ·grind
   by_cases d:b=2
   ·simp_all
   grind
  dsimp only;by_cases a:(b=3\/(b=1/\h=bq)\/(b=2/\h=bp))
  ·rw[aH a,au a];exact ah (AI ab ab) rfl
  grind
 by_cases a:(b=3\/(b=1/\h=bq)\/(b=2/\h=bp))
 ·rw[au a,au a]
 rw[aw a,aw a];exact ah (AI ab ab) rfl
theorem adB {neg s3:bA} {e oi:Z} (c:0<a) (j:-1074<c7 a e):4503599627370496<=(if c7 a e<=e then a*2^(e-c7 a e).toNat else hV neg a (c7 a e-e).toNat s3 oi):=by
 obtain⟨f,h⟩:=tV c;have i:=pQ c;have k:c7 a e=e+aL a-53:=(by grind [c7]);have g:(2:X)^52=4503599627370496:=ab;split
 ·rename_i d;have b:2^(aL a-1)*2^(e-c7 a e).toNat<=a*2^(e-c7 a e).toNat:=iz _ f;rw[<-jf] at b;grind
 rename_i d;have b:2^52<=a/2^(c7 a e-e).toNat:=(by rw[ak3 (jG _),<-jf];grind);grind [hV]
theorem Qc (s:aL a<=800000) (j:0<a) (C:-500000<=b) (D:b<=500000) (H:m=bp->54<=aL a):zn (h,aT (a:Z),b,m,u,())=Y (k6 h a b m u,()):=by
 have E:=pQ j;have F:=Fb (neg:=h) (s3:=m) (oi:=u) (e:=b) j;have p:=adB (neg:=h) (s3:=m) (oi:=u) (e:=b) j;have q:k6 h a b m u=kl h (if c7 a b<=b then a*2^(b-c7 a b).toNat else hV h a (c7 a b-b).toNat m u) (c7 a b) u:=(by grind [k6]);have r:c7 a b=if(-1074:Z)>b+aL a-1-52 then-1074 else b+aL a-1-52:=by grind [c7]
 have I:-1074<=c7 a b:=aa;have J:c7 a b<=1400000:=aa;have w:-1000000<=c7 a b-b:=aa;have A:c7 a b-b<=1000000:=aa;unfold zn;refine ah (Ax (z:=(a:Z)) (by grind)) ?_;rw[om];dsimp only;rw[cK (x:=b+(aL a:Z)) aa aa,cK (x:=b+(aL a:Z)-1) aa aa,cK (x:=b+(aL a:Z)-1-52) aa aa,<-r,q,cQ];split
 ·rename_i t;have K:972<=c7 a b:=aa;have p:=p aa;refine ah P8 ?_;clear r q w A;generalize(if c7 a b<=b then a*2^(b-c7 a b).toNat else hV h a (c7 a b-b).toNat m u)=d at*;unfold kl;grind
 rename_i t;refine ah (y:=(aT ((if c7 a b<=b then a*2^(b-c7 a b).toNat else hV h a (c7 a b-b).toNat m u:X):Z),())) ?_ ?_
 ·rw[cQ];split
  ·rename_i g;obtain⟨f,k⟩:∃f:X,c7 a b-b=f:=⟨(c7 a b-b).toNat,aa⟩;rw[cK (x:=c7 a b-b) aa aa,k,ahR];refine ah (abD s aa) ?_;dsimp only;by_cases B:c7 a b<=b
   ·have v:f=0:=aa;have G:m=bq:=by
     grind
    rw[au B,v];unfold hV;grind
   grind
  rename_i g;obtain⟨f,k⟩:∃f:X,b-c7 a b=f:=⟨(b-c7 a b).toNat,aa⟩;rw[cK (x:=b-c7 a b) aa aa,au aa,k,fA];refine ah (Jv (z:=(a:Z)) (n:=f) (by grind) aa) ?_;grind
 generalize(if c7 a b<=b then a*2^(b-c7 a b).toNat else hV h a (c7 a b-b).toNat m u)=d at*;generalize c7 a b=c at*;dsimp only;refine ah (ab0 (z:=(d:Z)) aa aa) ?_;dsimp only;rw[gH];unfold kl;by_cases l:d=9007199254740992
 ·rw[aH (aa:(d:Z)=9007199254740992),aw (aa:¬d<4503599627370496),au l];refine ah (y:=(c+1,4503599627370496,())) ?_ ?_
  ·grind [cq]
  dsimp only;rw[cK (x:=c+1+53) aa aa,aH (aa:(4503599627370496:Z)>=4503599627370496)];by_cases g:c+1+1075>=2047
  ·rw[au g];refine ah (y:=.inr (qe h u,())) ?_ bn;refine ah (y:=(bp,())) ?_ (ah P8 bn);grind
  rw[aw g];refine ah (y:=.inr (i6 h ((c+1+1075)*4503599627370496),())) ?_ bn;refine ah (y:=(bq,())) ?_ ?_
  ·grind
  dsimp only;rw[cK (x:=c+1+1075) aa aa,fo (x:=c+1+1075) aa aa,nR ab ab,show(2:Z)^(52:Z).toNat=4503599627370496 from rfl];have ao:aJ (ay (4503599627370496-4503599627370496))=0:=(by grind [cK,fo]);have i:(c+1+1075)*4503599627370496 %18446744073709551616=(c+1+1075)*4503599627370496:=aa;rw[ao,i];show((q0 (h,fN bC ((c+1+1075)*4503599627370496) 0,())).bind _)=_;rw[Am,m3 52 ab ab aa ab aa aa,aiz];exact ah (AI aa aa) rfl
 rw[aF (aa:¬(d:Z)=9007199254740992)];refine ah (y:=(c,(d:Z),())) rfl ?_;dsimp only;rw[cK (x:=c+53) aa aa];by_cases o:d<4503599627370496
 ·rw[aF (aa:¬((d:Z)>=4503599627370496)),au o,fo (x:=(d:Z)) aa aa];refine ah (y:=.inl ()) ?_ ?_
  ·grind
  exact ah (AI aa aa) rfl
 rw[aH (aa:((d:Z)>=4503599627370496)),aw o,aw l];by_cases g:c+1075>=2047
 ·omega
 rw[aw g];refine ah (y:=.inr (i6 h ((c+1075)*4503599627370496+((d:Z)-4503599627370496)),())) ?_ bn;refine ah (y:=(bq,())) ?_ ?_
 ·grind
 dsimp only;rw[cK (x:=c+1075) aa aa,fo (x:=c+1075) aa aa,nR ab ab,show(2:Z)^(52:Z).toNat=4503599627370496 from rfl];have ao:aJ (ay ((d:Z)-4503599627370496))=(d:Z)-4503599627370496:=(by grind [cK,fo]);have i:(c+1075)*4503599627370496 %18446744073709551616=(c+1075)*4503599627370496:=aa;rw[ao,i];show((q0 (h,fN bC ((c+1075)*4503599627370496) ((d:Z)-4503599627370496),())).bind _)=_;rw[Am,m3 52 aa aa aa aa aa aa];refine ah (AI aa aa) ?_;grind
theorem KY (a:eJ b):eM bC b 52=Y (b/4503599627370496)/\ey bC (b/4503599627370496) 2047=a8 b/\ey bC b 4503599627370495=fb b:=by
 have c:=a.1;have d:=a.2;refine⟨?_,?_,?_⟩
 ·grind [vl]
 ·rw[r7 11 aa aa 2047 ab ab];rfl
 rw[r7 52 aa aa 4503599627370495 ab ab];rfl
theorem xQ (a:eJ b):pY (b,())=Y (!br (a8 b=2047),()):=by simp_all [gb,ah,KY,pY]
theorem ab1 (a:eJ b):CW (b,())=Y (br (9223372036854775808<=b),()):=by grind [Ll,CW]
theorem j9 (g:eJ e):j3 (e,())=Y (az (a2 e),()):=by
 obtain⟨i,j,k⟩:=KY g;have t:=sG e;have s:=w5 e;unfold j3 a2;refine ah (xQ g) ?_;dsimp only;by_cases f:a8 e=2047
 ·rw[aH f,au f];rfl
 rw[aF f,aw f,show(!!bq)=bq from rfl,bO,i,aC,j,k,cK (x:=a8 e) aa aa];obtain⟨a,c,l,n,o,p,q,h⟩:∃a c,(bif br (a8 e>0) then some (fN bC (fb e) 4503599627370496,ay (a8 e-1075),((false,((false,([],())),((0:Z),()))):fL),()) else some (fb e,(-1074:Z),(false,((false,([],())),((0:Z),()))),()))=some (a,c,(false,((false,([],())),((0:Z),()))),())/\0<=a/\a<9007199254740992/\-1074<=c/\c<=972/\(a=(if a8 e=0 then fb e else fb e+4503599627370496)/\c=(if a8 e=0 then-1074 else a8 e-1075)):=by
  by_cases d:a8 e=0
  ·refine⟨fb e,-1074,?_,aa,aa,aa,aa,by rw[au d],by rw[au d]⟩;grind
  refine⟨fb e+4503599627370496,a8 e-1075,?_,aa,aa,aa,aa,by rw[aw d],by rw[aw d]⟩;rw[aH (aa:a8 e>0),cK aa aa,m3 52 aa aa aa aa aa ab];rfl
 rw[<-h.1,<-h.2];refine ah l ?_;dsimp only;refine ah (ab1 g) ?_;rw[m7,bN];dsimp only;rw[pp a,la (x:=a/4294967296) aa aa];have r:aL a.natAbs<=53:=gp.2 aa;refine ah (PV (b:=(br (9223372036854775808<=e),[a %4294967296,a/4294967296],())) (m:=if e<9223372036854775808 then a else-a) (aQ.cons.2 ⟨⟨aa,aa⟩,aQ.cons.2 ⟨⟨aa,aa⟩,aQ.nil⟩⟩) ac ?_ ?_ aa aa) rfl
 ·unfold hl;simp only[ag];grind
 grind
def iu (a:ag6) (b:Z):Z:=match a with
 |none=>9221120237041090560
 |some c=>m5 c b
theorem Qb (d:cL k):zl (az k,b,())=Y (iu k b,()):=by
 unfold zl;refine ah (ov d) ?_;dsimp only;rw[q4];cases k with
 |none=>rfl
 |some a=>
  have e:=d a bn;have h:=kn e;have i:=kN e;rw[hB];refine ah (lF aa) ?_;dsimp only;rw[jD];unfold iu m5;by_cases c:a=0
  ·subst c;rw[aH (show cE 0=0 from rfl)];rfl
  rw[aF (jA c)];simp only;rw[cf c,bO];have g:0<(cE a).natAbs:=(by grind [jA]);refine ah (Aw aa) ?_;dsimp only;rw[xD];refine ah (Qc aa g aa aa (λf=>by cases f)) ?_;simp_all [cf,eI]
def xf (a:Z):cL (jx a):=Is a 0
def abX (a:-9223372036854775808<=b) (c:b<=9223372036854775807):CV (b,e,())=Y (iu (jx b) e,()):=by unfold CV;exact ah (Jn a c) (ah (Qb (xf b)) rfl)
theorem acd (g:0<a) (h:0<c) (e:aL a<=131072) (f:aL c<=131072):∃b,m4 a c<=b/\b<=140000/\GL (aT (a:Z),aT (c:Z),60,())=Y (aT ((a*2^b/c:X):Z),-(b:Z),br (a*2^b %c≠0),()):=by obtain⟨b,i⟩:∃b,b=62+aL c-aL a:=⟨_,bn⟩;have j:b<=131134:=aa;have k:aL (a*2^b)<=262206:=(by grind [yD]);refine⟨b,by grind [m4],aa,?_⟩;unfold GL;refine ah (Ax (z:=(c:Z)) (by grind)) (ah (Ax (z:=(a:Z)) (by grind)) ?_);rw[om,om];dsimp only;have ao:(if 0>ay (ay (ay (60+2)+(aL c:Z))-(aL a:Z)) then 0 else ay (ay (ay (60+2)+(aL c:Z))-(aL a:Z)))=(b:Z):=(by grind [cK]);rw[ao];refine ah (Jv (z:=(a:Z)) (n:=b) (by grind) aa) ?_;have d:(a:Z)*2^b=((a*2^b:X):Z):=(by grind);rw[d];refine ah (abN (x:=((a*2^b:X):Z)) (y:=(c:Z)) (by grind) (by grind) aa aa) ?_;rw[<-ake,<-amr];have l:aL (a*2^b %c)<=900000:=cA (lX (ald _ _)) aa;refine ah (lF (by grind)) ?_;grind [jD,aH,aF,cK,ala]
theorem abZ (f:cL n) (g:cL k):GM (az n,az k,b,())=Y (fV n k b,()):=by
 unfold GM;refine ah (ov f) (ah (ov g) ?_);dsimp only;rw[q4,q4];cases n with
 |none=>cases k<;>rfl
 |some c=>
  cases k with
  |none=>rfl
  |some a=>
   have p:=kn (f c bn);have q:=kn (g a bn);have w:=kN (f c bn);have A:=kN (g a bn);rw[hB,hB];by_cases h:a=0
   ·subst h;refine ah (y:=.inr (9221120237041090560,())) ?_ bn;exact ah (lF (z:=cE 0) ab) rfl
   refine ah (y:=.inl ((bq,aT (cE c),eI c,()),(bq,aT (cE a),eI a,()),())) ?_ ?_
   ·refine ah (lF (z:=cE a) aa) ?_;grind [jD,aF,jA]
   dsimp only;refine ah (lF (z:=cE c) aa) ?_;dsimp only;rw[jD];unfold fV;simp only;rw[cf h];by_cases e:c=0
   ·subst e;rw[aH (show cE 0=0 from rfl)];rfl
   rw[aF (jA e),cf e,bO];have j:0<(cE c).natAbs:=(by grind [jA]);have l:0<(cE a).natAbs:=(by grind [jA]);refine ah (Aw aa) (ah (Aw aa) ?_);obtain⟨d,u,B,v⟩:=acd j l p q;refine ah v ?_;dsimp only;rw[cK (x:=eI c-eI a) aa aa,cK aa aa,xD,xD];have m:58<=aL ((cE c).natAbs*2^d/(cE a).natAbs):=EB j l (by grind [m4]);have s:0<(cE c).natAbs*2^d/(cE a).natAbs:=by
    rcases n0 ((cE c).natAbs*2^d/(cE a).natAbs) with i|i
    ·rw[i] at m;exact absurd m ab
    omega
   have t:aL ((cE c).natAbs*2^d/(cE a).natAbs)<=800000:=cA (lX (alc _ _)) (by grind [yD]);refine ah (Qc t s aa aa (λ_=>by omega)) ?_;have r:=abh (oi:=b) e h u;dsimp only;rw[<-r];unfold rz;have o:eI c-eI a+-(d:Z)=eQ c-eQ a-d:=(by unfold eI;omega);rw[o];rfl
def pb (a:Z) (b:X):X:=((a %18446744073709551616) %(b:Z)).toNat
theorem z9 (a:Z) {n:X} (b:0<n):pb a n<n:=by simp_all [pu,nV,pb]
theorem Aa (a:Z) {n:X} (c:0<n) (e:n<=9223372036854775807):uv (a,(n:Z),())=Y ((pb a n:Z),()):=by unfold uv;have d:=z9 a c;have b:(a %18446744073709551616) %(n:Z)=(pb a n:Z):=(by unfold pb;have:=ajn (a %18446744073709551616) (aa:(n:Z)≠0);omega);dsimp only;rw[rL a,fo (x:=(n:Z)) aa aa,(EC (x:=a %18446744073709551616) (y:=(n:Z)) ⟨aa,aa⟩ aa).2,b];grind [AU]
theorem aeh (a b:Z):eJ (ts bC a b):=by grind [AW,ts,eJ]
theorem Ke (e:ahc) (i:e.length<=9223372036854775807) (h:Z):ae (uw (e,h,())) (λb=>eJ b.1):=by
 have f:∀a b:Z,0<=b->∃c,eM bC a b=Y c:=λa b d=>(by unfold eM;simp_all);unfold uw;dsimp only;refine ae.aK (P:=λ_=>True) ?_ ?_
 ·rw[cQ];refine ae.ite (λd=>?_) λd=>bu.2 trivial;simp_all [ae.bs,Aa,eY,bu,trivial,z9,bg]
 rintro⟨a,_⟩ _;dsimp only;obtain⟨c,g⟩:=f a 31 ab;refine ae.bs g ?_;obtain⟨k,j⟩:=f (aJ (ts bC a c*13787848793156543929)) 29 ab;grind [ae.bs,bu,aeh]
theorem Qs (a:0<=b) (c:b<9223372036854775808):eJ (i6 h b):=by grind [i6,eJ]
theorem aaC (b:bA) (a:Z):eJ (qe b a):=by grind [Qs,qe]
theorem aaG (c:a<=9007199254740992) (d:-1074<=b):eJ (kl h a b e):=by grind [aaC,Qs,kl]
theorem PX (c:0<a):eJ (k6 m a b h u):=by have d:=Fb (neg:=m) (s3:=h) (oi:=u) (e:=b) c;grind [aaG,k6,kl,c7,hV]
def Iz:eJ 9221120237041090560:=⟨ab,ab⟩
theorem AH (a:ag6) (c:Z):eJ (iu a c):=by
 unfold iu;cases a with
 |none=>exact Iz
 |some d=>
  simp only;unfold m5;by_cases b:d=0
  ·rw[au b];exact⟨ab,ab⟩
  simp_all [aw,PX,jA]
theorem Av (i:Z):eJ (fV k n i):=by
 unfold fV;cases k with
 |none=>exact Iz
 |some a=>
  cases n with
  |none=>exact Iz
  |some b=>
   simp only;by_cases c:b=0
   ·rw[au c];exact⟨ab,ab⟩
   by_cases f:a=0
   ·rw[aw c,au f];exact⟨ab,ab⟩
   rw[aw c,aw f];unfold vc rz;have g:0<(cE a).natAbs:=(by grind [jA]);have h:0<(cE b).natAbs:=(by grind [jA]);have e:58<=aL ((cE a).natAbs*2^m4 (cE a).natAbs (cE b).natAbs/(cE b).natAbs):=EB g h (by grind [m4]);refine PX ?_;rcases n0 ((cE a).natAbs*2^m4 (cE a).natAbs (cE b).natAbs/(cE b).natAbs) with d|d
   ·rw[d] at e;exact absurd e ab
   omega
theorem Pg (a b:Z):eJ (fN bC a b):=by grind [AW,fN,eJ]
structure ie (rows c3:X) (st p9 x2:ahc):Prop where
 len:st.length=c3+1
 first:st.getD 0 0=0
 mono:∀j,j<c3->st.getD j 0<=st.getD (j+1) 0
 last:st.getD c3 0=(p9.length:Z)
 val:x2.length=p9.length
 rng:∀j k:X,j<c3->st.getD j 0<=(k:Z)->(k:Z)<st.getD (j+1) 0->0<=p9.getD k 0/\p9.getD k 0<(rows:Z)
 asc:∀j k:X,j<c3->st.getD j 0<(k:Z)->(k:Z)<st.getD (j+1) 0->p9.getD (k-1) 0<p9.getD k 0
theorem hj {i:X} (a:i<d.length):al d (i:Z)=Y (d.getD i 0):=by rw[eY a,jv a]
theorem acP (o:d.length<=1000000):CD (d,())=Y (open Classical in decide (∀a,a+1<d.length->d.getD a 0<=d.getD (a+1) 0),()):=by
 classical
 unfold CD;dsimp only;refine bP.1 (ae.aK (P:=λj=>match j with|.inl _=>(∀a,a+1<d.length->d.getD a 0<=d.getD (a+1) 0)|.inr k=>k=(bq,())/\¬(∀a,a+1<d.length->d.getD a 0<=d.getD (a+1) 0)) ?_ ?_)
 ·refine ahx (λe=>∃b:X,(e.1=(b:Z)\/(e.1=-1/\b=0))/\b<=d.length/\(b<d.length\/d.length=0)/\(∀a,b<=a->a+1<d.length->d.getD a 0<=d.getD (a+1) 0)) (λe=>e.1.toNat) ⟨d.length-1,?_,aa,aa,λa f h=>by omega⟩ ?_
  ·grind [cK,bg]
  rintro⟨l,_⟩ ⟨b,f,h,m,n⟩;dsimp only at f|-;rw[cQ];refine ae.ite (λg=>?_) λg=>?_
  ·obtain rfl:l=(b:Z):=aa;obtain⟨c,rfl⟩:∃c,b=c+1:=⟨b-1,aa⟩;have ao:ay (((c+1:X):Z)-1)=(c:Z):=(by grind [cK]);rw[ao];refine ae.bs (hj aa) (ae.bs (hj aa) ?_);refine ae.bs (y:=(br (d.getD (c+1) 0<d.getD c 0),())) (by simp_all [ale,bN,ug,si]) ?_;dsimp only;rw[cQ];refine ae.ite (λi=>?_) λi=>?_
   ·grind [bu]
   grind [bu,cl]
  grind [bu]
 grind [ahg,bu,ahN]
def kr (e:Z) (d b:ahc) (c:X):Prop:=∀a:X,d.getD c 0<=(a:Z)->(a:Z)<d.getD (c+1) 0->(if(a:Z)=d.getD c 0 then-1 else b.getD (a-1) 0)<b.getD a 0/\b.getD a 0<e
theorem kr.pos (h:kr b d f a) (i:0<=d.getD a 0):∀c:X,d.getD a 0<=(c:Z)->(c:Z)<d.getD (a+1) 0->0<=f.getD c 0:=by
 intro c
 induction c with
 |zero=>
  intro e g;have:=(h 0 e g).1;omega
 |succ c k=>
  intro e g;have j:=(h (c+1) e g).1;grind
theorem kr.rng (h:0<=d.getD a 0):kr b d f a↔(∀k:X,d.getD a 0<=(k:Z)->(k:Z)<d.getD (a+1) 0->0<=f.getD k 0/\f.getD k 0<b)/\(∀k:X,d.getD a 0<(k:Z)->(k:Z)<d.getD (a+1) 0->f.getD (k-1) 0<f.getD k 0):=by
 constructor
 ·intro g;refine⟨λk c e=>⟨g.pos h k c e,(g k c e).2⟩,λk c e=>?_⟩;have:=(g k aa e).1;omega
 rintro⟨c,e⟩ k i j;refine⟨?_,(c k i j).2⟩;split
 ·grind
 grind
theorem acH {l:ahc} {lo hi t:X} (a:hi<=l.length) (b:lo+t<hi):((l.take hi).drop lo).length=hi-lo/\((l.take hi).drop lo)[t]?=Y (l.getD (lo+t) 0):=by grind
theorem acI {l:ahc} {lo:X} (b:a<=l.length):((l.take a).drop lo).length=a-lo:=by grind
theorem ie.iff:ie c a d f g↔d.length=a+1/\d.getD 0 0=0/\(∀b,b<a->d.getD b 0<=d.getD (b+1) 0)/\d.getD a 0=(f.length:Z)/\g.length=f.length/\∀b,b<a->kr (c:Z) d f b:=by
 have o:(∀b,b<a->d.getD b 0<=d.getD (b+1) 0)->d.getD 0 0=0->∀b,b<=a->0<=d.getD b 0:=λr q b=>by
  induction b with
  |zero=>omega
  |succ b s=>grind
 constructor
 ·rintro⟨l,h,i,m,n,k,p⟩;exact⟨l,h,i,m,n,λb j=>(kr.rng (o i h b aa)).2 ⟨λe=>k b e j,λe=>p b e j⟩⟩
 rintro⟨l,h,i,m,n,k⟩;exact⟨l,h,i,m,n,λb e j=>((kr.rng (o i h b aa)).1 (k b j)).1 e,λb e j=>((kr.rng (o i h b aa)).1 (k b j)).2 e⟩
section
open Go.Proofs
def AR:bm (String×DataW bt):=[("math/bits.deBruijn32tab",Lib.tabData .u8 pR)]
def adh (b:Os) (a:ag3):laidMetH cn AR ((World.doorLaid cn 400 b).forCall (λ_ _=>0) ⟨#[],a,[]⟩).memory:=
 laidMetH_of_parts3 (fuel:=8) (laidMet_of_run' 8 (by kernel_rfl) (by kernel_rfl)) (by kernel_rfl) (by kernel_rfl)
def adg {b:bD} (c:laidMetH cn AR b):lg E (λr=>r<b.heap.size) b:=by
 rw[MakeChecks.laidMetH_plain _ _ _ (by kernel_rfl)] at c;have f:cn.globalNamed "math/bits.deBruijn32tab"=Y 0:=(by kernel_rfl);have j:=Lib.tabIs_of_head (g:=0) (t:=301) (e:=5) (n:=32) f (by kernel_rfl) (by kernel_rfl) (by kernel_rfl) (by kernel_rfl) (by kernel_rfl) c;intro q h;have h:q∈[(⟨0,301,.u8,pR⟩:tQ)]:=h;obtain rfl:=gj.1 h;have s:0<b.heap.size:=by
  have d:=j.cell f 0 ab;unfold aio at d;split at d
  ·rename_i x w y v;exact(rN.1 v).1
  cases d
 refine⟨bn,_,_,bn,bd _,(λc=>by cases c),.inr ⟨0,0,bn,s,λa p i=>?_⟩⟩;obtain⟨l,i⟩:=hJ.1 i;refine⟨[.int .u8 p],bn,λo z m=>?_,bn,bn⟩;have k:=j.cell f a l;have u:(pR.getD a 0:Z)=p:=(by rw[jv l];exact i);rw[u] at k;cases o with
 |zero=>
  obtain rfl:=gD m;have:(⟨0,0+a*ahE (.int .u8)+0,bo⟩:Addr)=⟨0,a,bo⟩:=(by show(⟨0,0+a*1+0,bo⟩:Addr)=_;congr 1;omega);rw[this];exact k
 |succ o=>cases m
end
section
theorem TD (a0:c<=200) (an:a<=200) (H:d.length<=10000) (Q:f.length<=1000000) (a4:g.length<=1000000):Cu (((c:Z),(a:Z),f,d,g,()),())=Y (open Classical in decide (ie c a f d g),()):=by
 classical
 unfold Cu;refine bP.1 ?_;dsimp only;have O:aP (a:Z)=((a+1:X):Z):=bk aa;have am:∀(j:¬ie c a f d g),(bq,())=(br (ie c a f d g),()):=λj=>(by rw[ahN j]);refine ae.aK (P:=λm=>match m with
  |.inl _=>f.length=a+1/\f.getD 0 0=0/\(∀b,b<a->f.getD b 0<=f.getD (b+1) 0)/\f.getD a 0=(d.length:Z)/\g.length=d.length
  |.inr o=>o=(bq,())/\¬ie c a f d g) ?_ ?_
 ·rw[O,gb];by_cases A:f.length=a+1
  ·rw[aH (show ak f=((a+1:X):Z) by grind)];refine ae.bs (y:=f.getD 0 0) (hj (i:=0) aa) ?_;rw[gb];by_cases q:f.getD 0 0=0
   ·rw[aH q];refine ae.bs (acP Q) ?_;dsimp only;by_cases r:∀p,p+1<f.length->f.getD p 0<=f.getD (p+1) 0
    ·rw[ahg r];refine ae.bs (y:=f.getD a 0) (hj aa) ?_;rw[gb];by_cases s:f.getD a 0=(d.length:Z)
     ·rw[aH (show f.getD a 0=ak d from s),gb];by_cases B:d.length=g.length
      ·grind [bu,aH,bg]
      rw[aF (show¬ak d=ak g by grind)];exact bu.2 ⟨bn,λj=>B j.val.symm⟩
     rw[aF (show¬f.getD a 0=ak d from s)];exact bu.2 ⟨bn,λj=>s j.last⟩
    rw[ahN r];exact bu.2 ⟨bn,λj=>r λp H=>j.mono p aa⟩
   rw[aF q];exact bu.2 ⟨bn,λj=>q j.first⟩
  rw[aF (show¬ak f=((a+1:X):Z) by grind)];exact bu.2 ⟨bn,λj=>A j.len⟩
 rintro(m|m) w
 rotate_left
 ·grind [bu]
 obtain⟨A,q,r,s,B⟩:f.length=a+1/\f.getD 0 0=0/\(∀b,b<a->f.getD b 0<=f.getD (b+1) 0)/\f.getD a 0=(d.length:Z)/\g.length=d.length:=w;have F:∀b,b<=a->0<=f.getD b 0:=λb=>by
  induction b with
  |zero=>omega
  |succ b R=>grind
 have w:∀u b,b+u=a->f.getD b 0<=(d.length:Z):=λu=>by
  induction u with
  |zero=>grind
  |succ u R=>grind
 dsimp only;refine ae.aK (P:=λm=>match m with
  |.inl _=>(∀b,b<a->kr (c:Z) f d b)
  |.inr o=>o=(bq,())/\¬(∀b,b<a->kr (c:Z) f d b)) ?_ ?_
 ·refine ae.steps a (λp x=>x=((p:Z),())/\∀b,b<p->kr (c:Z) f d b) ⟨bn,λb L=>by omega⟩ ?_ ?_
  ·rintro b _ L ⟨rfl,C⟩;dsimp only;rw[aY (aH (aa:(b:Z)<(a:Z))),bk aa];obtain⟨e,N⟩:=ahi (F b aa);obtain⟨n,K⟩:=ahi (F (b+1) aa);have E:n<=d.length:=(by have:=w (a-(b+1)) (b+1) aa;omega);have av:e<=n:=(by grind);refine ae.bs (y:=(e:Z)) (by rw[hj aa,N]) (ae.bs (y:=(n:Z)) (by rw[hj aa,K]) (ae.bs (y:=(e,n)) (by grind [u1,qa]) ?_));dsimp only;have ap:=acI (l:=d) (lo:=e) E;refine ae.aK (P:=λm=>match m with
    |.inl _=>kr (c:Z) f d b
    |.inr o=>o=.inr (.inr (bq,()))/\¬kr (c:Z) f d b) ?_ ?_
   ·refine ae.steps (n-e) (λh x=>x=((if h=0 then-1 else d.getD (e+h-1) 0),(h:Z),())/\∀k:X,e<=k->k<e+h->(if(k:Z)=f.getD b 0 then-1 else d.getD (k-1) 0)<d.getD k 0/\d.getD k 0<(c:Z)) ⟨bn,λk C D=>by omega⟩ ?_ ?_
    ·rintro h _ a3 ⟨rfl,D⟩;have J:=(acH (l:=d) (lo:=e) (hi:=n) (t:=h) E aa).2;have M:(if h=0 then-1 else d.getD (e+h-1) 0)=(if((e+h:X):Z)=f.getD b 0 then-1 else d.getD (e+h-1) 0):=by
      omega
     dsimp only;rw[aY (aH (show(h:Z)<ak ((d.take n).drop e) by grind)),M];refine ae.aK (P:=λm=>match m with
      |.inl o=>o=(d.getD (e+h) 0,())/\((if((e+h:X):Z)=f.getD b 0 then-1 else d.getD (e+h-1) 0)<d.getD (e+h) 0/\d.getD (e+h) 0<(c:Z))
      |.inr o=>o=.inr (.inr (.inr (.inr (bq,()))))/\¬((if((e+h:X):Z)=f.getD b 0 then-1 else d.getD (e+h-1) 0)<d.getD (e+h) 0/\d.getD (e+h) 0<(c:Z))) ?_ ?_
     ·refine ae.bs (y:=d.getD (e+h) 0) (gQ J) ?_;generalize(if((e+h:X):Z)=f.getD b 0 then-1 else d.getD (e+h-1) 0)=V;generalize d.getD (e+h) 0=z;by_cases I:z<=V
      ·grind [bu,aH]
      rw[aF I];by_cases ad:z>=(c:Z)
      ·grind [bu,aH]
      grind [aF,bu]
     rintro(m|m) G
     ·obtain⟨rfl,v⟩:=G;refine bu.2 ⟨?_,?_⟩
      ·rw[bk aa,aw aa];rfl
      intro k S T;rcases cS k (e+h) with U|U
      ·grind
      obtain rfl:k=e+h:=aa;exact v
     obtain⟨rfl,v⟩:=G;refine bu.2 ⟨bn,λj=>v ?_⟩;exact j (e+h) aa aa
    rintro _ ⟨rfl,D⟩;dsimp only;rw[a1 (aF (show¬(((n-e:X):Z)<ak ((d.take n).drop e)) by grind))];refine bu.2 ?_;intro k S T;simp_all
   grind [bu,cl]
  rintro _ ⟨rfl,C⟩;simp_all [bu,a1,aF]
 grind [bu,ahg,ie.iff]
def nU (b:ahc):Prop:=∀a,a<b.length->a8 (b.getD a 0)≠2047
open Classical in
def gI (d b:X) (e c a:ahc):Z:=if ie d b e c a then if nU a then 0 else 4 else 1
theorem KP.getD {a:ahc} (e:∀d∈a,eJ d) (c:X):eJ (a.getD c 0):=by
 rcases cS c a.length with b|b
 ·grind
 rw[o7 b];exact⟨ab,ab⟩
theorem XM (j:∀m∈d,eJ m) (o:d.length<=1000000):Cx (d,(),())=Y (open Classical in decide (¬nU d),()):=by
 classical
 unfold Cx;refine bP.1 ?_;refine ae.aK (P:=λc=>∃e,c=(e,())/\(0<=e↔¬nU d)) ?_ ?_
 ·unfold Gt;dsimp only;refine ae.aK (P:=λk=>match k with|.inl _=>nU d|.inr c=>0<=c.1/\¬nU d) ?_ ?_
  ·refine ae.steps d.length (λa l=>l=((a:Z),())/\∀b,b<a->a8 (d.getD b 0)≠2047) ⟨bn,λb n=>by omega⟩ ?_ ?_
   ·rintro a _ h ⟨rfl,g⟩;dsimp only;rw[aY (aH (show(a:Z)<ak d by grind))];refine ae.bs (hj h) ?_;unfold Gr;refine ae.bs (y:=(br (a8 (d.getD a 0)=2047),())) (ah (zU (KP.getD j a)) (by grind)) ?_;dsimp only;rw[cQ];refine ae.ite (λf=>?_) λf=>?_
    ·exact bu.2 ⟨aa,λi=>i a h f⟩
    grind [bu,bk,cl]
   rintro _ ⟨rfl,g⟩;dsimp only;rw[a1 (aF (show¬((d.length:Z)<ak d) by grind))];exact bu.2 g
  grind [bu]
 rintro _ ⟨e,rfl,p⟩;refine bu.2 ?_;grind
theorem W3 (j:c<=200) (h:a<=200) (i:f.length<=10000) (k:g.length<=1000000) (e:d.length<=1000000) (l:∀m∈d,eJ m):so (((c:Z),(a:Z),g,f,d,()),())=Y (gI c a g f d,()):=by
 classical
 unfold so gI;dsimp only;refine ah (y:=(bq,())) ?_ ?_
 ·unfold Cw;grind
 dsimp only;rw[bO];refine ah (TD j h i k e) ?_;dsimp only;by_cases b:ie c a g f d
 ·rw[ahg b,au b];refine ah (XM l e) ?_;grind
 grind
end
theorem abY (h:∀l∈d,eJ l) (n:d.length<=1000000):CX (d,())=Y (open Classical in decide (nU d),()):=by
 classical
 unfold CX;refine bP.1 ?_;dsimp only;refine ae.aK (P:=λi=>match i with|.inl _=>nU d|.inr j=>j=(bq,())/\¬nU d) ?_ ?_
 ·refine ae.steps d.length (λa k=>k=((a:Z),())/\∀b,b<a->a8 (d.getD b 0)≠2047) ⟨bn,λb m=>by omega⟩ ?_ ?_
  ·rintro a _ f ⟨rfl,e⟩;dsimp only;rw[aY (aH (show(a:Z)<ak d by grind))];refine ae.bs (hj f) (ae.bs (xQ (KP.getD h a)) ?_);dsimp only;rw[Bool.not_not,cQ];refine ae.ite (λc=>?_) λc=>?_
   ·exact bu.2 ⟨bn,λg=>g a f c⟩
   grind [bu,bk,cl]
  rintro _ ⟨rfl,e⟩;dsimp only;rw[a1 (aF (show¬((d.length:Z)<ak d) by grind))];exact bu.2 e
 grind [ahg,bu,ahN]
theorem abz (bl:c<=200) (an:a<=200) (ap:f.length<=10000) (bx:d.length<=1000000) (R:g.length<=1000000) (S:∀ad∈g,eJ ad):q1 (((c:Z),(a:Z),d,f,g,()),())=Y (gI c a d f g,()):=by
 classical
 unfold q1;refine bP.1 ?_;dsimp only;have Q:aP (a:Z)=((a+1:X):Z):=bk aa;have am:∀(l:¬ie c a d f g),((1:Z),())=(gI c a d f g,()):=λl=>(by unfold gI;grind);refine ae.bs (y:=.inl ()) ?_ ?_
 ·grind
 dsimp only;refine ae.aK (P:=λk=>match k with
  |.inl _=>d.length=a+1/\d.getD 0 0=0/\d.getD a 0=(f.length:Z)/\g.length=f.length
  |.inr m=>m=((1:Z),())/\¬ie c a d f g) ?_ ?_
 ·rw[Q,gb,gb];by_cases B:g.length=f.length
  ·rw[aH (show ak g=ak f by grind)];by_cases A:d.length=a+1
   ·rw[aH (show ak d=((a+1:X):Z) by grind)];refine ae.bs (y:=d.getD 0 0) (hj (i:=0) aa) ?_;rw[gb];by_cases q:d.getD 0 0=0
    ·rw[aH q];refine ae.bs (y:=d.getD a 0) (hj aa) ?_;rw[gb];by_cases u:d.getD a 0=(f.length:Z)
     ·grind [bu,aH]
     rw[aF (show¬d.getD a 0=ak f from u)];exact bu.2 ⟨bn,λl=>u l.last⟩
    rw[aF q];exact bu.2 ⟨bn,λl=>q l.first⟩
   rw[aF (show¬ak d=((a+1:X):Z) by grind)];exact bu.2 ⟨bn,λl=>A l.len⟩
  rw[aF (show¬ak g=ak f by grind)];exact bu.2 ⟨bn,λl=>B l.val⟩
 rintro(k|k) r
 rotate_left
 ·grind [bu]
 obtain⟨A,q,u,B⟩:d.length=a+1/\d.getD 0 0=0/\d.getD a 0=(f.length:Z)/\g.length=f.length:=r;dsimp only;refine ae.aK (P:=λk=>match k with
  |.inl _=>(∀b,b<a->d.getD b 0<=d.getD (b+1) 0)
  |.inr m=>m=((1:Z),())/\¬ie c a d f g) ?_ ?_
 ·refine ae.steps a (λp t=>t=((p:Z),())/\∀b,b<p->d.getD b 0<=d.getD (b+1) 0) ⟨bn,λb z=>by omega⟩ ?_ ?_
  ·rintro b _ z ⟨rfl,x⟩;dsimp only;rw[aY (aH (aa:(b:Z)<(a:Z))),bk aa];refine ae.bs (hj aa) (ae.bs (hj aa) ?_);rw[cQ];refine ae.ite (λw=>?_) λw=>?_
   ·exact bu.2 ⟨bn,λl=>by have:=l.mono b z;omega⟩
   grind [bu,cl]
  rintro _ ⟨rfl,x⟩;simp_all [bu,a1,aF]
 rintro(k|k) r
 rotate_left
 ·grind [bu]
 have M:∀b,b<a->d.getD b 0<=d.getD (b+1) 0:=r;have J:∀b,b<=a->0<=d.getD b 0:=λb=>by
  induction b with
  |zero=>omega
  |succ b K=>grind
 have r:∀v b,b+v=a->d.getD b 0<=(f.length:Z):=λv=>by
  induction v with
  |zero=>grind
  |succ v K=>grind
 dsimp only;refine ae.aK (P:=λk=>match k with
  |.inl _=>(∀b,b<a->kr (c:Z) d f b)
  |.inr m=>m=((1:Z),())/\¬(∀b,b<a->kr (c:Z) d f b)) ?_ ?_
 ·refine ae.steps a (λp t=>t=((p:Z),())/\∀b,b<p->kr (c:Z) d f b) ⟨bn,λb z=>by omega⟩ ?_ ?_
  ·rintro b _ z ⟨rfl,x⟩;dsimp only;rw[aY (aH (aa:(b:Z)<(a:Z))),bk aa];obtain⟨e,a3⟩:=ahi (J b aa);obtain⟨o,O⟩:=ahi (J (b+1) aa);have av:o<=f.length:=(by have:=r (a-(b+1)) (b+1) aa;omega);have a0:e<=o:=(by grind);have G:al d (b:Z)=Y (e:Z):=(by grind [hj]);have H:al d ((b+1:X):Z)=Y (o:Z):=(by rw[hj aa,O]);refine ae.bs G ?_;refine ae.aK (P:=λk=>match k with
    |.inl _=>kr (c:Z) d f b
    |.inr m=>m=.inr (.inr ((1:Z),()))/\¬kr (c:Z) d f b) ?_ ?_
   ·refine ae.steps (o-e) (λh t=>t=(((e+h:X):Z),())/\∀j:X,e<=j->j<e+h->(if(j:Z)=d.getD b 0 then-1 else f.getD (j-1) 0)<f.getD j 0/\f.getD j 0<(c:Z)) ⟨bn,λj x n=>by omega⟩ ?_ ?_
    ·rintro h _ ce ⟨rfl,n⟩;dsimp only;refine ae.bs H ?_;rw[aY (aH (aa:((e+h:X):Z)<(o:Z)))];have C:al f ((e+h:X):Z)=Y (f.getD (e+h) 0):=hj aa;have a4:h≠0->0<=f.getD (e+h-1) 0:=λV=>by
      have U:∀j:X,e<=j->j<e+h->0<=f.getD j 0:=by
       intro j
       induction j with
       |zero=>
        grind
       |succ j K=>
        intro D E;have I:=(n (j+1) D E).1;by_cases w:((j+1:X):Z)=d.getD b 0
        ·omega
        grind
      exact U _ aa aa
     refine ae.aK (P:=λk=>match k with
      |.inl _=>((if((e+h:X):Z)=d.getD b 0 then-1 else f.getD (e+h-1) 0)<f.getD (e+h) 0/\f.getD (e+h) 0<(c:Z))
      |.inr m=>m=.inr (.inr (.inr (.inr ((1:Z),()))))/\¬((if((e+h:X):Z)=d.getD b 0 then-1 else f.getD (e+h-1) 0)<f.getD (e+h) 0/\f.getD (e+h) 0<(c:Z))) ?_ ?_
     ·refine ae.bs C ?_;by_cases F:f.getD (e+h) 0<0
      ·rw[aH F];refine bu.2 ⟨bn,λl=>?_⟩;omega
      rw[aF F];refine ae.bs C ?_;by_cases L:f.getD (e+h) 0>=(c:Z)
      ·grind [bu,aH]
      rw[aF L];refine ae.bs G ?_;by_cases V:h=0
      ·rw[aF (aa:¬((e+h:X):Z)>(e:Z))];refine bu.2 ⟨?_,aa⟩;omega
      rw[aH (aa:((e+h:X):Z)>(e:Z))];have ao:ay (((e+h:X):Z)-1)=((e+h-1:X):Z):=(by rw[cK aa aa];omega);refine ae.bs C (ae.bs (y:=f.getD (e+h-1) 0) (by rw[ao];exact hj aa) ?_);rw[cQ];refine ae.ite (λw=>?_) λw=>?_
      ·refine bu.2 ⟨bn,λl=>?_⟩;omega
      refine bu.2 ⟨?_,aa⟩;omega
     rintro(k|k) s
     ·refine bu.2 ⟨by rw[bk aa];rfl,?_⟩;intro j D E;rcases cS j (e+h) with T|T
      ·grind
      obtain rfl:j=e+h:=aa;omega
     obtain⟨rfl,I⟩:=s;exact bu.2 ⟨bn,λl=>I (l (e+h) aa aa)⟩
    rintro _ ⟨rfl,n⟩;dsimp only;refine ae.bs H ?_;rw[a1 (aF (aa:¬(((e+(o-e):X):Z)<(o:Z))))];refine bu.2 ?_;intro j D E;simp_all
   grind [bu,cl]
  rintro _ ⟨rfl,x⟩;simp_all [bu,a1,aF]
 rintro(k|k) s
 ·have s:(∀b,b<a->kr (c:Z) d f b):=s;have N:ie c a d f g:=ie.iff.2 ⟨A,q,M,u,B,s⟩;refine ae.bs (abY S R) ?_;unfold gI;rw[au N];by_cases n:nU g
  ·rw[ahg n,au n];grind [bu]
  rw[ahN n,aw n];grind [bu]
 grind [bu,ie.iff]
abbrev cV:=Z×Z×Z×bt
variable{s:bm cV}
def iE (b d:ahc) (c:Z) (a:X):X->bm cV
 |0=>[]
 |n+1=>iE b d c a n++[(b.getD (a+n) 0,c,d.getD (a+n) 0,())]
def cX (a b c:ahc):X->bm cV
 |0=>[]
 |j+1=>cX a b c j++iE b c (j:Z) (a.getD j 0).toNat ((a.getD (j+1) 0).toNat-(a.getD j 0).toNat)
theorem Ms (c f:ahc) (d:Z) (e a:X):(iE c f d e a).length=a:=by
 induction a with
 |zero=>rfl
 |succ a b=>simp[iE,b]
def ie.pos (e:ie c a d f g):∀b,b<=a->0<=d.getD b 0:=λb=>by
 have:=e.first
 induction b with
 |zero=>omega
 |succ b h=>intro i;have:=h aa;have:=e.mono b aa;omega
theorem ie.sQ (h:ie c a f d g):∀b,b<=a->f.getD b 0<=(d.length:Z):=by
 have k:∀e b,b+e=a->f.getD b 0<=(d.length:Z):=λe=>by
  have:=h.last
  induction e with
  |zero=>grind
  |succ e j=>intro b i;have:=j (b+1) aa;have:=h.mono b aa;omega
 exactλb i=>k (a-b) b aa
theorem zG (e:ie c a d f g):∀b,b<=a->(cX d f g b).length=(d.getD b 0).toNat:=λb=>by
 induction b with
 |zero=>intro _;have:=e.first;show 0=(d.getD 0 0).toNat;omega
 |succ b h=>
  intro k;have i:=h aa;have j:=e.mono b aa;grind [ahO,Ms,cX]
theorem Hm (e:ie c a g d f) (p:a<=200) (r:d.length<=10000):wM (((c:Z),(a:Z),g,d,f,()),())=Y (cX g d f a,()):=by
 unfold wM;refine bP.1 ?_;dsimp only;refine ae.aK (P:=λk=>k=(cX g d f a,())) ?_ (by grind [bu]);refine ae.steps a (λb l=>l=((b:Z),cX g d f b,())) rfl ?_ ?_
 ·rintro b _ n rfl;have s:=e.len;obtain⟨i,o⟩:=ahi (e.pos b aa);obtain⟨h,m⟩:=ahi (e.pos (b+1) aa);have t:h<=d.length:=(by have:=e.sQ (b+1) aa;omega);have u:i<=h:=(by have:=e.mono b n;omega);have q:=zG e b aa;have w:=e.val;dsimp only;rw[aY (aH (aa:(b:Z)<(a:Z))),bk aa];refine ae.bs (y:=(i:Z)) (by rw[hj aa,o]) ?_;refine ae.aK (P:=λk=>k=(cX g d f (b+1),())) ?_ (by grind [bu]);refine ae.steps (h-i) (λj l=>l=(((i+j:X):Z),cX g d f b++iE d f (b:Z) i j,())) (by simp[iE]) ?_ ?_
  ·rintro j _ v rfl;dsimp only;refine ae.bs (y:=(h:Z)) (by rw[hj aa,m]) ?_;rw[aY (aH (aa:((i+j:X):Z)<(h:Z)))];refine ae.bs (hj aa) (ae.bs (hj aa) ?_);rw[eB (by grind [Ms])];refine bu.2 ?_;rw[bk aa,ahP];rfl
  rintro _ rfl;dsimp only;refine ae.bs (y:=(h:Z)) (by rw[hj aa,m]) ?_;simp_all [bu,a1,aF,cX,iE]
 rintro _ rfl;dsimp only;rw[a1 (aF (aa:¬((a:Z)<(a:Z))))];grind [bu]
structure jq (rows c3:X) (st p9 x2:ahc):Prop where
 hr:rows<=200
 hc:c3<=200
 hi:p9.length<=10000
 hs:st.length<=1000000
 hv:x2.length<=1000000
 hw:∀v∈x2,eJ v
def jq.check (b:jq c a f d g):so (((c:Z),(a:Z),f,d,g,()),())=Y (gI c a f d g,()):=W3 b.hr b.hc b.hi b.hs b.hv b.hw
def jq.xO (b:jq c a f d g):q1 (((c:Z),(a:Z),f,d,g,()),())=Y (gI c a f d g,()):=abz b.hr b.hc b.hi b.hs b.hv b.hw
theorem jM:gI c a g f d=0↔ie c a g f d/\nU d:=by unfold gI;grind
def RE (b:jq c a f d g) (e:gI c a f d g=0):Cr (((c:Z),(a:Z),f,d,g,()),())=Y (cX f d g a,()):=by unfold Cr;refine ah b.check ?_;dsimp only;rw[e,gb,aH bn];exact ah (Hm (jM.1 e).1 b.hc b.hi) rfl
theorem PG (b:jq c a f d g) (i:gI c a f d g=0):zo (((c:Z),(a:Z),f,d,g,()),())=Y (cX f d g a,()):=by have e:=(jM.1 i).1;have h:=Hm e b.hc b.hi;unfold wM at h;unfold zo;refine ah b.xO ?_;grind
def hm (a b:cV):Prop:=a.2.1<b.2.1\/(a.2.1=b.2.1/\a.1<b.1)
def uZ {i:cV}:i∈iE d f b c a↔∃e,e<a/\i=(d.getD (c+e) 0,b,f.getD (c+e) 0,()):=by
 induction a with
 |zero=>simp[iE]
 |succ a l=>
  simp only[iE,h8,l,gj];constructor
  ·rintro(⟨e,k,g⟩|j)
   ·exact⟨e,aa,g⟩
   exact⟨a,aa,j⟩
  rintro⟨e,k,g⟩;rcases cS e a with h|h
  ·exact .inl ⟨e,h,g⟩
  obtain rfl:e=a:=aa;exact .inr g
def Uo (h:∀g e,g<e->e<a->d.getD (c+g) 0<d.getD (c+e) 0):(iE d f b c a).Pairwise hm:=by
 induction a with
 |zero=>exact ajL
 |succ a m=>
  refine ams.2 ⟨m λg e i p=>h g e i aa,List.pairwise_singleton _ _,?_⟩;intro n j o k;obtain⟨e,l,rfl⟩:=uZ.1 j;rw[gj.1 k];exact .inr ⟨bn,h e a l aa⟩
def z7 {h:cV}:h∈cX d f g a↔∃b,b<a/\h∈iE f g (b:Z) (d.getD b 0).toNat ((d.getD (b+1) 0).toNat-(d.getD b 0).toNat):=by
 induction a with
 |zero=>simp[cX]
 |succ a k=>
  simp only[cX,h8,k];constructor
  ·rintro(⟨b,j,c⟩|i)
   ·exact⟨b,aa,c⟩
   exact⟨a,aa,i⟩
  rintro⟨b,j,c⟩;rcases cS b a with e|e
  ·exact .inl ⟨b,e,c⟩
  obtain rfl:b=a:=aa;exact .inr c
def p0 (k:ie c a d f g):∀b,b<=a->(cX d f g b).Pairwise hm:=by
 intro b
 induction b with
 |zero=>intro _;exact ajL
 |succ b q=>
  intro p;have C:=k.pos b aa;have D:=k.pos (b+1) p;refine ams.2 ⟨q aa,Uo ?_,?_⟩
  ·intro h i v w;have s:∀e,h+e<(d.getD (b+1) 0).toNat-(d.getD b 0).toNat->0<e->f.getD ((d.getD b 0).toNat+h) 0<f.getD ((d.getD b 0).toNat+(h+e)) 0:=by
    intro e
    induction e with
    |zero=>intro _ y;omega
    |succ e r=>
     intro x _;have m:=k.asc b ((d.getD b 0).toNat+(h+(e+1))) aa aa aa;rw[(aa:(d.getD b 0).toNat+(h+(e+1))-1=(d.getD b 0).toNat+(h+e))] at m;rcases n0 e with j|j
     ·subst j;exact m
     have:=r aa j;omega
   have:=s (i-h) aa aa;rwa[(aa:h+(i-h)=i)] at this
  intro t l u o;obtain⟨n,z,l⟩:=z7.1 l;obtain⟨i,A,rfl⟩:=uZ.1 l;obtain⟨E,B,rfl⟩:=uZ.1 o;exact .inl (by show(n:Z)<(b:Z);omega)
def aaw (a b:Z):BI ([a,b],())=Y (if a≠0 then a else b,()):=by
 unfold BI;refine bP.1 ?_;dsimp only;refine ae.aK (P:=λf=>match f with|.inl _=>a=0/\b=0|.inr k=>k=(if a≠0 then a else b,())) ?_ ?_
 ·refine ae.steps 2 (λd l=>l=((d:Z),())/\(1<=d->a=0)/\(2<=d->b=0)) ⟨bn,λh=>by omega,λh=>by omega⟩ ?_ ?_
  ·rintro d _ m ⟨rfl,g,i⟩;rcases(aa:d=0\/d=1) with rfl|rfl
   ·show ae (bif a !=0 then _ else _) _;rw[gb];by_cases c:a=0
    ·rw[aH c];exact bu.2 ⟨bn,λ_=>c,λh=>by omega⟩
    rw[aF c];refine bu.2 ?_;rw[au c]
   show ae (bif b !=0 then _ else _) _;have j:=g ab;rw[gb];by_cases c:b=0
   ·rw[aH c];exact bu.2 ⟨bn,λ_=>j,λ_=>c⟩
   rw[aF c];refine bu.2 ?_;rw[aw (by simpa using j)]
  rintro _ ⟨rfl,g,i⟩;exact bu.2 ⟨g ab,i ab⟩
 rintro(f|f) e
 ·obtain⟨rfl,rfl⟩:a=0/\b=0:=e;exact bu.2 bn
 have e:f=_:=e;rw[e];exact bu.2 bn
def Ml {a b:cV} (c:hm a b):wN (b,a,())=Y (1,()):=by
 unfold wN;refine ah (BF _ _) (ah (BF _ _) (ah (aaw _ _) ?_));dsimp only;congr 2;unfold fE;rcases c with c|⟨e,d⟩
 ·rw[aw (aa:¬b.2.1<a.2.1),au c];rfl
 rw[aw (aa:¬b.2.1<a.2.1),aw (aa:¬a.2.1<b.2.1),aw ac,aw (aa:¬b.1<a.1),au d]
def HU (i:s.length<=1000) (e:s.Pairwise hm) {lo hi:X} (f:lo<=hi) (g:hi<=s.length):zd (s,(lo:Z),(hi:Z),(),())=Y (s,()):=by
 unfold zd;refine bP.1 ?_;dsimp only;refine ae.aK (P:=λc=>c=(s,())) ?_ (by rintro _ rfl;exact bu.2 bn);refine ae.steps (hi-lo-1) (λa b=>b=(((lo+1+a:X):Z),s,())) (by rw[bk aa]) ?_ ?_
 ·rintro a _ h rfl;dsimp only;rw[aY (aH (aa:((lo+1+a:X):Z)<(hi:Z)))];refine ae.aK (P:=λc=>c=(s,())) ?_ (by rintro _ rfl;refine bu.2 ?_;dsimp only;rw[bk aa];rfl);refine ae.steps 0 (λ_ b=>b=(((lo+1+a:X):Z),s,())) rfl (λa b hi=>by omega) ?_;rintro _ rfl;dsimp only;refine ae.bs (y:=.inr (.inr (s,()))) ?_ (bu.2 bn);rw[aH (aa:((lo+1+a:X):Z)>(lo:Z))];have ao:ay (((lo+1+a:X):Z)-1)=((lo+a:X):Z):=(by rw[cK aa aa];omega);rw[ahM,bG,lE aa,ao,lE aa];have d:hm s[lo+a] s[lo+1+a]:=ahh.1 e _ _ aa aa aa;exact ah (Ml d) rfl
 rintro _ rfl;dsimp only;rw[a1 (aF (aa:¬((lo+1+(hi-lo-1):X):Z)<(hi:Z)))];exact bu.2 bn
def adc (u:s.length=21) (m:s.Pairwise hm):CK (s,0,20,21,(),())=Y (s,()):=by
 unfold CK;refine bP.1 ?_;dsimp only;rw[a1 ab,aY ab];refine ae.aK (P:=λh=>h=(20,s,())) ?_ ?_
 ·refine ae.steps 4 (λd g=>g=((([0,11,16,19,20]:ahb).getD d 0:Z),20,s,())) rfl ?_ ?_
  ·rintro d _ v rfl;have f:∀c a:X,c<20->a<20->eM bC (aJ (ay ((c:Z)+20))) 1=Y (a:Z)->ay (a:Z)=(a:Z)->aP (a:Z)=((a+1:X):Z)->
    ae (
     bif br ((c:Z)<20) then(eM bC (aJ (ay ((c:Z)+20))) 1).bind λi=>
     rd s 20 λo=>rd s (ay i) λp=>(wN (o,p,())).bind λ(n,_)=>
      (bif !(br (n<0)) then Y (.inl (aP (ay i),20,s,())) else bo) else Y (.inr ((c:Z),s,())))
     (λe=>e=Sum.inl (((a+1:X):Z),(20:Z),s,())):=by
    intro c a q r j k l;rw[aY (aH aa),j,bN,k,show(20:Z)=((20:X):Z) from rfl,lE aa,lE aa];refine ae.bs (Ml (ahh.1 m _ _ aa aa aa)) ?_;dsimp only;rw[aY ab,l];exact bu.2 bn
   rcases(by omega:d=0\/d=1\/d=2\/d=3) with rfl|rfl|rfl|rfl
   ·exact(f 0 10 ab ab ab ab ab).mono λe b=>by rw[b];rfl
   ·exact(f 11 15 ab ab ab ab ab).mono λe b=>by rw[b];rfl
   ·exact(f 16 18 ab ab ab ab ab).mono λe b=>by rw[b];rfl
   exact(f 19 19 ab ab ab ab ab).mono λe b=>by rw[b];rfl
  rintro _ rfl;exact bu.2 bn
 rintro _ rfl;dsimp only;refine ae.aK (P:=λh=>h=(s,())) ?_ (by rintro _ rfl;exact bu.2 bn);refine ae.steps 0 (λ_ g=>g=(20,s,())) rfl (λw g t=>by omega) ?_;rintro _ rfl;exact bu.2 bn
def acL (l:s.length<=21) (d:s.Pairwise hm):Cv (s,())=Y (s,()):=by
 unfold Cv;refine ah (y:=(s,())) ?_ ?_
 ·unfold Gs;have f:((cG (([]:bm cV).length+s.length)).bind λ_=>Y (([]++s:bm cV),()))=Y (s,()):=by
   rw[eB (by simp;omega)];rfl
  show rv s.length (Y ([],())) ((cG (([]:bm cV).length+s.length)).bind λ_=>Y (([]++s:bm cV),()))=_;unfold rv;rw[f];split
  ·rename_i h;obtain rfl:=qx h;rw[au bn]
  rfl
 refine ah (y:=(s,())) ?_ bn;unfold Gy;refine ah (y:=(s,())) ?_ bn;unfold GA;refine bP.1 ?_;dsimp only;by_cases j:s.length<20
 ·refine ae.aK (P:=λb=>b=(0,s,())) ?_ ?_
  ·refine ae.steps 0 (λ_ a=>a=(0,20,s,())) rfl (λg a e=>by omega) ?_;rintro _ rfl;dsimp only;rw[a1 (aF (show¬((20:Z)<=ak s) by simp only[bg];omega))];exact bu.2 bn
  rintro _ rfl;refine ae.bs (HU (lo:=0) aa d (Nat.zero_le _) (cc _)) ?_;refine ae.aK (P:=λb=>b=(s,())) ?_ (by rintro _ rfl;exact bu.2 bn);refine ae.steps 0 (λ_ a=>a=(20,s,())) rfl (λg a e=>by omega) ?_;rintro _ rfl;dsimp only;rw[a1 (aF (show¬((20:Z)<ak s) by simp only[bg];omega))];exact bu.2 bn
 refine ae.aK (P:=λb=>b=(20,s,())) ?_ ?_
 ·refine ae.steps 1 (λc a=>a=((20*(c:Z)),20+20*(c:Z),s,())) rfl ?_ ?_
  ·rintro c _ i rfl;obtain rfl:c=0:=aa;dsimp only;rw[aY (aH (show(20:Z)+20*((0:X):Z)<=ak s by simp only[bg];omega))];refine ae.bs (HU (lo:=0) (hi:=20) aa d (Nat.zero_le _) aa) ?_;exact bu.2 bn
  rintro _ rfl;dsimp only;rw[a1 (aF (show¬((20:Z)+20*((1:X):Z)<=ak s) by simp only[bg];omega))];exact bu.2 bn
 rintro _ rfl;refine ae.bs (HU (lo:=20) aa d aa (bd _)) ?_;refine ae.aK (P:=λb=>b=(s,())) ?_ (by rintro _ rfl;exact bu.2 bn);by_cases k:s.length=20
 ·refine ae.steps 0 (λ_ a=>a=(20,s,())) rfl (λg a e=>by omega) ?_;rintro _ rfl;dsimp only;rw[a1 (aF (show¬((20:Z)<ak s) by simp only[bg];omega))];exact bu.2 bn
 refine ae.steps 1 (λc a=>a=(20+20*(c:Z),s,())) rfl ?_ ?_
 ·rintro c _ i rfl;obtain rfl:c=0:=aa;dsimp only;rw[aY (aH (show(20:Z)+20*((0:X):Z)<ak s by simp only[bg];omega))];refine ae.aK (P:=λb=>b=(0,s,())) ?_ ?_
  ·refine ae.steps 0 (λ_ a=>a=(0,40,s,())) rfl (λg a e=>by omega) ?_;rintro _ rfl;dsimp only;rw[a1 (aF (show¬((40:Z)<=ak s) by simp only[bg];omega))];exact bu.2 bn
  rintro _ rfl;refine ae.bs (y:=(s,())) ?_ (bu.2 bn);dsimp only;have f:ak s=21:=(by rw[bg];omega);rw[f,aY (aH (ab:ay (0+(20+20*((0:X):Z)))<21))];exact ah (adc aa d) rfl
 rintro _ rfl;dsimp only;rw[a1 (aF (show¬((20:Z)+20*((1:X):Z)<ak s) by simp only[bg];omega))];exact bu.2 bn
def js (E:bm cV) (a:Z):X:=(E.filter λb=>br (b.2.1=a)).length
def g1 (E:bm cV) (a:Z):X:=(E.filter λb=>br (b.2.1<a)).length
def rp (d b:X) (E:bm cV):fJ:=((d:Z),(b:Z),aB (b+1) (λc=>(g1 E (c:Z):Z)),E.map (λa=>a.1),E.map (λa=>a.2.2.1),())
theorem Gc (E:bm cV) (a:Z):g1 E (a+1)=g1 E a+js E a:=by
 unfold g1 js
 induction E with
 |nil=>rfl
 |cons b E d=>
  simp only[nY];rcases Int.lt_trichotomy b.2.1 a with c|c|c
  ·rw[au (by simpa using(by omega:b.2.1<a+1)),au (by simpa using c),aw (by simpa using(by omega:¬b.2.1=a))];simp only[jc];omega
  ·rw[au (by simpa using(by omega:b.2.1<a+1)),aw (by simpa using(by omega:¬b.2.1<a)),au (by simpa using c)];simp only[jc];omega
  rw[aw (by simpa using(by omega:¬b.2.1<a+1)),aw (by simpa using(by omega:¬b.2.1<a)),aw (by simpa using(by omega:¬b.2.1=a))];omega
def lh (c b:X) (E:bm cV):Prop:=∀a∈E,0<=a.1/\a.1<(c:Z)/\0<=a.2.1/\a.2.1<(b:Z)
def LR (E:bm cV) (c:cV) (a:Z):js (E++[c]) a=js E a+if c.2.1=a then 1 else 0:=by
 unfold js;rw[pz,ku];congr 1;by_cases b:c.2.1=a
 ·rw[au b,Fu (by simpa using b)];rfl
 rw[aw b,A5 (by simpa using b)];rfl
def Te {E:bm cV} (C:c<=200) (B:a<=200) (n:E.length<=21) (y:E.Pairwise hm) (t:lh c a E):Ct ((c:Z),(a:Z),E,())=Y (rp c a E,()):=by
 unfold Ct;refine bP.1 ?_;dsimp only;rw[bk aa];refine ae.bs (ij aa) (ae.bs (acL n y) ?_);dsimp only;refine ae.aK (P:=λr=>r=(((0:Z),((0:Z),([],([],([],()))))),((c:Z),(a:Z),aB (a+1) (λb=>if b=0 then(0:Z) else(js E ((b:Z)-1):Z)),E.map (λe=>e.1),E.map (λe=>e.2.2.1),()),())) ?_ ?_
 ·refine ae.steps E.length (λd s=>s=((d:Z),((0:Z),((0:Z),([],([],([],()))))),((c:Z),(a:Z),aB (a+1) (λb=>if b=0 then(0:Z) else(js (E.take d) ((b:Z)-1):Z)),(E.take d).map (λe=>e.1),(E.take d).map (λe=>e.2.2.1),()),E,())) ?_ ?_ ?_
  ·have j:(aB (a+1) λ_=>(0:Z))=aB (a+1) λb=>if b=0 then(0:Z) else(js (E.take 0) ((b:Z)-1):Z):=c9 λb l=>by split<;>rfl
   rw[jj,j];rfl
  ·rintro d _ k rfl;have q:=t E[d] (b6 k);obtain⟨i,w⟩:=ahi q.2.2.1;dsimp only;rw[aY (aH (show(d:Z)<ak E by simp only[bg];omega)),lE k];have ao:aP E[d].2.1=((i+1:X):Z):=(by rw[w,bk aa]);have p:E.take (d+1)=E.take d++[E[d]]:=(by rw[ct,bR k];rfl);rw[eB (by simp;omega),bN,eB (by simp;omega),bN,ao];refine ae.bs (eT (by rw[cY];omega)) (ae.bs (gW aa) (ae.bs (eT (by rw[cY];omega)) ?_));rw[gW aa];refine bu.2 ?_;have o:(aB (a+1) (λb=>if b=0 then(0:Z) else(js (E.take d) ((b:Z)-1):Z))).set (i+1) (aP (if i+1=0 then(0:Z) else(js (E.take d) (((i+1:X):Z)-1):Z)))=aB (a+1) (λb=>if b=0 then(0:Z) else(js (E.take (d+1)) ((b:Z)-1):Z)):=by
    rw[hC];refine c9 λb l=>?_;have m:∀g,js (E.take d) g<=21:=λg=>dh (kv _ _) (by rw[gh];omega);by_cases f:b=i+1
    ·subst f;rw[gM,aw aa,aw aa,bk (by have:=m (((i+1:X):Z)-1);omega),p,LR,au aa]
    rw[he _ _ f];by_cases h:b=0
    ·rw[au h,au h]
    rw[aw h,aw h,p,LR,aw aa,mQ]
   dsimp only[ajs];rw[bk aa,o,p,akg,akg];rfl
  rintro _ rfl;dsimp only;rw[a1 (aF (show¬((E.length:Z)<ak E) by simp only[bg];omega)),ck (cc _)];exact bu.2 bn
 rintro _ rfl;dsimp only;refine ae.aK (P:=λr=>r=(((0:Z),((0:Z),([],([],([],()))))),rp c a E,())) ?_ (by rintro _ rfl;exact bu.2 bn);have x:∀g,g1 E g<=21:=λg=>cA (ahF _ _) n;have m:∀g,js E g<=21:=λg=>cA (ahF _ _) n;have v:g1 E 0=0:=by
  unfold g1;rw[akh.2]
  ·rfl
  intro e q;have:=t e q;simpa using this.2.2.1
 refine ae.steps a (λd s=>s=((d:Z),((0:Z),((0:Z),([],([],([],()))))),((c:Z),(a:Z),aB (a+1) (λb=>if b<=d then(g1 E (b:Z):Z) else(js E ((b:Z)-1):Z)),E.map (λe=>e.1),E.map (λe=>e.2.2.1),()),())) ?_ ?_ ?_
 ·have j:(aB (a+1) λb=>if b=0 then(0:Z) else(js E ((b:Z)-1):Z))=aB (a+1) (λb=>if b<=0 then(g1 E (b:Z):Z) else(js E ((b:Z)-1):Z)):=c9 λb l=>by
   by_cases f:b=0
   ·subst f;rw[au bn,au (bd _)];show(0:Z)=((g1 E 0:X):Z);rw[v];rfl
   rw[aw f,aw aa]
  rw[j];rfl
 ·rintro d _ k rfl;dsimp only;rw[aY (aH (aa:(d:Z)<(a:Z))),bk aa,lE (by rw[cY];omega),lE (by rw[cY];omega),lx,lx];refine ae.bs (eT (by rw[cY];omega)) ?_;rw[gW aa];refine bu.2 ?_;have o:(aB (a+1) (λb=>if b<=d then(g1 E (b:Z):Z) else(js E ((b:Z)-1):Z))).set (d+1) (ay ((if d+1<=d then(g1 E ((d+1:X):Z):Z) else(js E (((d+1:X):Z)-1):Z))+(if d<=d then(g1 E (d:Z):Z) else(js E ((d:Z)-1):Z))))=aB (a+1) (λb=>if b<=d+1 then(g1 E (b:Z):Z) else(js E ((b:Z)-1):Z)):=by
   rw[hC];refine c9 λb l=>?_;by_cases f:b=d+1
   ·subst f;have u:=Gc E (d:Z);have z:=m (d:Z);have A:=x (d:Z);rw[gM,aw aa,au (bd _),au (bd _),(aa:(((d+1:X):Z)-1)=(d:Z)),cK aa aa,(aa:((d+1:X):Z)=(d:Z)+1),u];omega
   rw[he _ _ f];by_cases h:b<=d
   ·rw[au h,au aa]
   rw[aw h,aw aa]
  dsimp only[ajs];rw[o]
 rintro _ rfl;dsimp only;rw[a1 (aF (aa:¬((a:Z)<(a:Z))))];have j:aB (a+1) (λb=>if b<=a then(g1 E (b:Z):Z) else(js E ((b:Z)-1):Z))=aB (a+1) (λb=>(g1 E (b:Z):Z)):=c9 λb l=>(by rw[b9 aa]);rw[j];exact bu.2 bn
def g9 (b c:Z) (a:cV):bA:=br (a.2.1<b)||(br (a.2.1=b)&&br (a.1<c))
theorem Li {a c:cV} (d:hm a c) (h:g9 e b c=bp):g9 e b a=bp:=by
 unfold g9 at*;simp only[jl,cC,ahD] at*;rcases d with d|⟨f,g⟩
 ·omega
 omega
theorem MD {j i:Z}:∀{E:bm cV},E.Pairwise hm->E.filter (g9 j i)=E.take (E.filter (g9 j i)).length
 |[],_=>rfl
 |x::E,b=>by
  obtain⟨d,c⟩:=mP.1 b;by_cases a:g9 j i x=bp
  ·rw[Fu a,jc,Ba];exact b3 _ (MD c)
  grind [akh,Li,List.filter_cons_of_neg]
theorem FV {E:bm cV} (d:lh c a E):E.filter (g9 0 0)=[]:=by refine akh.2 λf e b=>?_;have:=d f e;unfold g9 at b;grind
theorem SW {E:bm cV} (d:lh a c E) (b:Z):E.filter (g9 b (a:Z))=E.filter (g9 (b+1) 0):=by refine pA λf e=>?_;have:=d f e;unfold g9;grind
theorem Bv {E:bm cV} (d:lh c a E) (b:Z):(E.filter (g9 b 0)).length=g1 E b:=by unfold g1;congr 1;refine pA λf e=>?_;have:=d f e;unfold g9;grind
theorem FW {j i:Z} {E:bm cV} (c:E.Pairwise hm) (h:a<E.length):g9 j i E[a]=bp↔a<(E.filter (g9 j i)).length:=by
 constructor
 ·intro b;have g:∀d∈E.take (a+1),g9 j i d=bp:=by
   grind [Li,ahh,cl,aiY]
  grind [aho,am1,aki,ain]
 intro b;have e:=MD (j:=j) (i:=i) c;have f:E[a]∈E.filter (g9 j i):=(by grind [aiY]);grind
theorem SX {j i:Z} {E:bm cV} (o:E.Pairwise hm):(∃d:(E.filter (g9 j i)).length<E.length,E[(E.filter (g9 j i)).length].1=i/\E[(E.filter (g9 j i)).length].2.1=j/\(E.filter (g9 j (i+1))).length=(E.filter (g9 j i)).length+1)\/((∀b,(d:b<E.length)->¬(E[b].1=i/\E[b].2.1=j))/\(E.filter (g9 j (i+1))).length=(E.filter (g9 j i)).length):=by
 have p:∀e:cV,g9 j (i+1) e=bp↔g9 j i e=bp\/(e.1=i/\e.2.1=j):=λe=>(by unfold g9;grind);have w:∀e:cV,e.1=i/\e.2.1=j->¬g9 j i e=bp:=λe k d=>(by simp_all [jl,cC,ahD,g9]);generalize C:(E.filter (g9 j i)).length=g;generalize D:(E.filter (g9 j (i+1))).length=l;have q:∀a,(f:a<E.length)->(g9 j i E[a]=bp↔a<g):=λa f=>(by grind [FW]);have m:∀a,(f:a<E.length)->(g9 j (i+1) E[a]=bp↔a<l):=λa f=>(by grind [FW]);have F:g<=E.length:=(by grind);have G:l<=E.length:=(by grind);by_cases n:∃b,∃d:b<E.length,E[b].1=i/\E[b].2.1=j
 ·obtain⟨b,h,k⟩:=n;have x:¬b<g:=λd=>w _ k ((q b h).2 d);have y:b<l:=(m b h).1 ((p _).2 (.inr k));have r:∀a,(f:a<E.length)->g<=a->a<l->a=b:=λa f A t=>by
   have u:=(p _).1 ((m a f).2 t);have B:E[a].1=i/\E[a].2.1=j:=u.resolve_left λd=>(by grind);rcases qE a b with c|c|c
   ·have:=h0.1 o a b f h c;rcases this with d|⟨d,s⟩<;>omega
   ·exact c
   have:=h0.1 o b a h f c;rcases this with d|⟨d,s⟩<;>omega
  have v:g=b:=r g aa (bd _) aa;subst v;refine .inl ⟨h,k.1,k.2,?_⟩;rcases cS (g+1) l with c|c
  ·grind
  omega
 refine .inr ⟨λb h k=>n ⟨b,h,k⟩,?_⟩;have z:∀a,a<E.length->(a<l↔a<g):=λa f=>(by grind);rcases qE l g with c|c|c
 ·grind
 ·exact c
 grind
def ou (b:X) (a:cV):X:=a.2.1.toNat*b+a.1.toNat
theorem aa2 {E:bm cV} (d:lh a c E) {b:cV} (e:b∈E):ou a b<a*c:=by have f:=d b e;unfold ou;have g:(b.2.1.toNat+1)*a<=c*a:=iz _ aa;grind
theorem aa1 {rows:X} {a b:Z×Z} (f:0<=a.1/\a.1<(rows:Z)/\0<=a.2) (g:0<=b.1/\b.1<(rows:Z)/\0<=b.2) (c:a.2.toNat*rows+a.1.toNat=b.2.toNat*rows+b.1.toNat):a.1=b.1/\a.2=b.2:=by have d:(a.2.toNat*rows+a.1.toNat)/rows=a.2.toNat:=(by rw[qF,amt aa,alb aa,mQ]);have e:(b.2.toNat*rows+b.1.toNat)/rows=b.2.toNat:=(by rw[qF,amt aa,alb aa,mQ]);grind
def n8 (b:X) (E:bm cV):X->X->Z
 |0,_=>0
 |i+1,a=>if a=ou b (E.getD i (0,0,0,())) then((i+1:X):Z) else n8 b E i a
theorem LB (c:X) (E:bm cV) (b:X):∀i,(n8 c E i b=0/\∀a,a<i->ou c (E.getD a (0,0,0,()))≠b)\/∃a,a<i/\ou c (E.getD a (0,0,0,()))=b/\n8 c E i b=((a+1:X):Z)
 |0=>.inl ⟨bn,λa e=>absurd e aa⟩
 |i+1=>by
  unfold n8;by_cases d:b=ou c (E.getD i (0,0,0,()))
  ·grind
  rw[aw d];rcases LB c E b i with⟨f,g⟩|⟨a,f,g,h⟩
  ·grind
  grind
theorem To (b:X) (E:bm cV) (a:X):eC (n8 b E a) (ou b (E.getD a (0,0,0,()))) ((a+1:X):Z)=n8 b E (a+1):=by grind [n8,eC]
theorem Py (e:c<=200) (d:a<=200) (g:j<=200):ay (ay ((a:Z)*(c:Z))+(j:Z))=((a*c+j:X):Z):=by have f:a*c<=200*200:=oP d e;have b:(a:Z)*(c:Z)=((a*c:X):Z):=aa;rw[b,AU aa,<-Int.natCast_add,AU aa]
theorem HI {E:bm cV} (b:a<E.length):E.getD a (0,0,0,())=E[a]:=by grind
def jS (E:bm cV) (b a:Z):X:=(E.filter (g9 b a)).length
def Pu (E:bm cV) (b a:Z):jS E b a<=E.length:=kv _ _
def pe (e d:X) (E:bm cV) (a:X) (c:X):fJ:=((e:Z),(d:Z),aB (a+1) (λa=>(g1 E (a:Z):Z)),(E.take c).map (λb=>b.1),(E.take c).map (λb=>b.2.2.1),())
theorem aaH {f:X} {E:bm cV} (x:c<=200) (D:f<=200) (T:E.length<=10000) (J:E.Pairwise hm) (k:lh c f E):CY ((c:Z),(f:Z),E,())=Y (rp c f E,()):=by
 unfold CY;refine bP.1 ?_;dsimp only;have am:c*f<=200*200:=Nat.mul_le_mul x D;have A:ay ((c:Z)*(f:Z))=((c*f:X):Z):=(by rw[<-ajI,AU aa]);rw[A];refine ae.bs (ij aa) ?_;have O:g1 E 0=0:=(by rw[<-Bv k,FV k];rfl);refine ae.aK (P:=λm=>m=(((0:Z),((0:Z),([],([],([],()))))),pe c f E 0 0,aB (c*f) (n8 c E E.length),())) ?_ ?_
 ·refine ae.steps E.length (λe n=>n=((e:Z),((0:Z),((0:Z),([],([],([],()))))),pe c f E 0 0,aB (c*f) (n8 c E e),())) ?_ ?_ ?_
  ·have:pe c f E 0 0=((c:Z),((f:Z),([0],(([]:bi),(([]:bi),()))))):=by
    grind [zI,UX,g1,pe]
   rw[jj,this];rfl
  ·rintro e _ l rfl;have h:=k E[e] (b6 l);obtain⟨M,R⟩:=ahi h.1;obtain⟨N,S⟩:=ahi h.2.2.1;dsimp only;rw[aY (aH (show(e:Z)<ak E by grind))];refine ae.bs (eY l) (ae.bs (eY l) ?_);have I:ay (ay (E[e].2.1*(c:Z))+E[e].1)=((ou c E[e]:X):Z):=by
    grind [Py,ahR,ou]
   have V:=aa2 k (cO l);grind [bu,lI,cY,hC,bk,HI,To]
  rintro _ rfl;dsimp only;rw[a1 (aF (show¬((E.length:Z)<ak E) by grind))];grind [bu]
 rintro _ rfl;dsimp only;refine ae.aK (P:=λm=>m=(((0:Z),((0:Z),([],([],([],()))))),rp c f E,())) ?_ (by grind [bu]);refine ae.steps f (λd n=>n=((d:Z),((0:Z),((0:Z),([],([],([],()))))),pe c f E d (jS E (d:Z) 0),aB (c*f) (n8 c E E.length),())) ?_ ?_ ?_
 ·have:jS E ((0:X):Z) 0=0:=by
   unfold jS;grind [FV]
  grind
 ·rintro d _ F rfl;dsimp only;rw[aY (aH (aa:(d:Z)<(f:Z)))];refine ae.aK (P:=λm=>m=(((0:Z),((0:Z),([],([],([],()))))),pe c f E d (jS E (d:Z) (c:Z)),aB (c*f) (n8 c E E.length),())) ?_ ?_
  ·refine ae.steps c (λe n=>n=((e:Z),((0:Z),((0:Z),([],([],([],()))))),pe c f E d (jS E (d:Z) (e:Z)),aB (c*f) (n8 c E E.length),())) rfl ?_ ?_
   ·rintro e _ l rfl;dsimp only;rw[aY (aH (aa:(e:Z)<(c:Z))),Py x aa aa];have I:d*c+e<c*f:=by
     have p:(d+1)*c<=f*c:=iz _ F;grind
    rw[lE (by grind [cY]),lx];have w:=Pu E (d:Z) (e:Z);have q:=SX (j:=(d:Z)) (i:=(e:Z)) J;change(∃o:jS E (d:Z) (e:Z)<E.length,E[jS E (d:Z) (e:Z)].1=(e:Z)/\E[jS E (d:Z) (e:Z)].2.1=(d:Z)/\jS E (d:Z) ((e:Z)+1)=jS E (d:Z) (e:Z)+1)\/((∀u,(o:u<E.length)->¬(E[u].1=(e:Z)/\E[u].2.1=(d:Z)))/\jS E (d:Z) ((e:Z)+1)=jS E (d:Z) (e:Z)) at q;rw[show(e:Z)+1=((e+1:X):Z) from by omega] at q;generalize jS E (d:Z) (e:Z)=z at*;rw[bk aa];have G:∀g,(o:g<E.length)->ou c E[g]=d*c+e->E[g].1=(e:Z)/\E[g].2.1=(d:Z):=(by intro g o ad;have h:=k E[g] (cO o);exact aa1 (rows:=c) (a:=(E[g].1,E[g].2.1)) (b:=((e:Z),(d:Z))) ⟨h.1,h.2.1,h.2.2.1⟩ ⟨aa,aa,aa⟩ (by grind [ou]));rcases LB c E (d*c+e) E.length with⟨L,av⟩|⟨g,t,y,K⟩
    ·rw[L];rcases q with⟨p,s,B,C⟩|⟨p,s⟩
     ·grind [ahR,HI,ou,absurd]
     rw[a1 (aF aa)];grind [bu,ae.bs]
    rw[K];rw[HI t] at y;obtain⟨ax,ap⟩:=G g t y;rcases q with⟨p,s,B,C⟩|⟨p,s⟩
    ·have H:g=z:=by
      rcases qE g z with r|r|r
      ·grind [ahh,hm]
      ·exact r
      grind [ahh,hm]
     subst H;rw[aY (aH aa),(aa:((g+1:X):Z)-1=(g:Z)),AU aa];unfold pe;dsimp only;rw[eB (by grind),bN];have an:E.take (g+1)=E.take g++[E[g]]:=(by simp_all);rw[eY t,bN,eB (by grind),bN,bN];grind [bu]
    grind
   rintro _ rfl;dsimp only;rw[a1 (aF (aa:¬((c:Z)<(c:Z))))];grind [bu]
  rintro _ rfl;have w:=Pu E (d:Z) (c:Z);have ao:jS E (d:Z) (c:Z)=jS E ((d+1:X):Z) 0:=(by grind [SW,jS]);have Q:jS E ((d+1:X):Z) 0=g1 E ((d+1:X):Z):=Bv k _;rw[ao] at w|-;unfold pe;dsimp only;have U:ak ((E.take (jS E ((d+1:X):Z) 0)).map λv=>v.1)=(g1 E ((d+1:X):Z):Z):=(by grind);grind [bu,eB,cY,zI,bk]
 rintro _ rfl;dsimp only;rw[a1 (aF (aa:¬((f:Z)<(f:Z))))];have ao:jS E (f:Z) 0=E.length:=(by unfold jS;rw[ain.2];intro v h;have:=k v h;simp_all [Bool.or_eq_true,Bool.and_eq_true,ahD,g9]);have:pe c f E f (jS E (f:Z) 0)=rp c f E:=(by simp_all [ck,cc,pe,rp]);grind [bu]
theorem we {h:X} {E:bm cV} (g:E.Pairwise hm) (e:lh h c E) (f:a<E.length) (b:Z):E[a].2.1<b↔a<g1 E b:=by have d:=FW (j:=b) (i:=0) g f;rw[Bv e] at d;rw[<-d];have:=e E[a] (cO f);unfold g9;grind
theorem LM {E:bm cV} (b:lh c a E):g1 E 0=0:=by rw[<-Bv b,FV b];rfl
theorem LL {E:bm cV} (b:lh c a E):g1 E (a:Z)=E.length:=by unfold g1;rw[mh.2];intro e d;have:=b e d;grind
theorem UV {b:X->Z} (d:a<c):(aB c b).getD a 0=b a:=by grind [ju]
theorem DG {E:bm cV} (c:a<E.length):(E.map λb=>b.1).getD a 0=E[a].1:=by grind
theorem Vx {E:bm cV} (c:a<E.length):(E.map λb=>b.2.2.1).getD a 0=E[a].2.2.1:=by grind
def vq (a:X) (E:bm cV):ahc:=aB (a+1) (λb=>(g1 E (b:Z):Z))
theorem vr {E:bm cV} (b:a<=c):(vq c E).getD a 0=(g1 E (a:Z):Z):=UV aa
theorem Gb (E:bm cV) (a:Z):g1 E a<=E.length:=kv _ _
theorem acZ {E:bm cV} (i:E.Pairwise hm) (d:lh c a E):ie c a (vq a E) (E.map λj=>j.1) (E.map λj=>j.2.2.1) where
 len:=cY _ _
 first:=by rw[vr (c8 _)];grind [LM]
 mono:=λe k=>by grind [vr,Gc]
 last:=by rw[vr (bd _),LL d,e8]
 val:=by simp
 rng:=λe f k g h=>by rw[vr aa] at g h;have b:f<E.length:=(by grind [Gb]);rw[DG b];have:=d E[f] (cO b);omega
 asc:=λe f k g h=>by rw[vr aa] at g h;have b:f<E.length:=(by grind [Gb]);rw[DG b,DG aa];have l:=we i d b (e:Z);have m:=we i d b ((e+1:X):Z);have n:=we i d (aa:f-1<E.length) (e:Z);grind [ahh,we,hm]
theorem JJ {rows c3:X} {E:bm cV} (c:rows<=200) (b:c3<=200) (f:E.length<=10000) (e:∀a∈E,eJ a.2.2.1):jq rows c3 (vq c3 E) (E.map λa=>a.1) (E.map λa=>a.2.2.1) where
 hr:=c
 hc:=b
 hi:=by grind
 hs:=by grind [cY,vq]
 hv:=by grind
 hw:=λg d=>by grind
def Hk (c f:ahc) (d:Z) (b a:X):iE c f d b a=aB a λe=>(c.getD (b+e) 0,d,f.getD (b+e) 0,()):=by
 induction a with
 |zero=>rfl
 |succ a g=>rw[iE,g,zI]
theorem Up {E:bm cV} (i:E.Pairwise hm) (h:lh c a E):∀b,b<=a->cX (vq a E) (E.map λf=>f.1) (E.map λf=>f.2.2.1) b=E.take (g1 E (b:Z)):=by
 intro b
 induction b with
 |zero=>
  intro _;show[]=E.take (g1 E 0);grind [LM]
 |succ b q=>
  intro t;rw[cX,q aa,vr aa,vr aa,Hk,fA,fA];have n:g1 E ((b+1:X):Z)=g1 E (b:Z)+js E (b:Z):=(by grind [Gc]);have o:=Gb E ((b+1:X):Z);have j:∀d,(e:d<E.length)->g1 E (b:Z)<=d->d<g1 E ((b+1:X):Z)->E[d].2.1=(b:Z):=λd e l m=>(by have r:=we i h e (b:Z);have s:=we i h e ((b+1:X):Z);omega);rw[n] at j o|-;generalize g1 E (b:Z)=k at*;generalize js E (b:Z)=g at*;rw[rZ,List.take_add];congr 1;have p:((E.drop k).take g).length=g:=(by grind);refine vO (by rw[cY,p]) λu l m=>?_;grind [lx,DG,Vx,cY]
def Hl {E:bm cV} (e:E.Pairwise hm) (d:lh c a E):cX (vq a E) (E.map λb=>b.1) (E.map λb=>b.2.2.1) a=E:=by rw[Up e d a (bd _),LL d,fK (bd _)]
theorem U8 {E:bm cV} (b:∀a∈E,a8 a.2.2.1≠2047):nU (E.map λa=>a.2.2.1):=by intro d c;grind
def Ga {E:bm cV} (f:E.Pairwise hm) (e:lh c a E) (d:∀b∈E,a8 b.2.2.1≠2047):gI c a (vq a E) (E.map λb=>b.1) (E.map λb=>b.2.2.1)=0:=
 jM.2 ⟨acZ f e,U8 d⟩
theorem q6 (e:ie c a d f g):lh c a (cX d f g a):=by intro n h;obtain⟨b,i,h⟩:=z7.1 h;obtain⟨j,k,rfl⟩:=uZ.1 h;have l:=e.pos b aa;have m:=e.pos (b+1) aa;have:=e.rng b ((d.getD b 0).toNat+j) i aa aa;grind
theorem p1 (b:ie c a g f d) {i:Z->Prop} (m:∀k∈d,i k):∀j∈cX g f d a,i j.2.2.1:=by intro j h;obtain⟨e,l,h⟩:=z7.1 h;obtain⟨s,n,rfl⟩:=uZ.1 h;have q:=b.pos e aa;have r:=b.pos (e+1) aa;have o:=b.sQ (e+1) aa;have p:=b.val;grind
theorem Dv (b:nU d):∀a∈d,a8 a≠2047:=by intro a e;obtain⟨f,c,rfl⟩:=ho.1 e;have:=b f c;grind
def sY (a:cV):bA:=br (a.1>=a.2.1)
def gZ (E:bm cV):bm cV:=E.filter sY
def xv {E:bm cV} (a:E.Pairwise hm):(gZ E).Pairwise hm:=amu tG a
def xu {E:bm cV} (b:lh c a E):lh c a (gZ E):=λe d=>b e (hx.1 d).1
def WQ {E:bm cV}:∀a∈gZ E,a.2.1<=a.1:=λa b=>by have:=(hx.1 b).2;unfold sY at this;simpa using this
def QU {b:l->bA} {E:bm l} (d:a<E.length):(E.take (a+1)).filter b=(E.take a).filter b++(if b E[a]=bp then[E[a]] else[]):=by
 rw[hR,bc d,pz];congr 1;show[E[a]].filter b=_;by_cases c:b E[a]=bp
 ·rw[au c,Fu c];rfl
 rw[aw c,A5 c];rfl
def IA:∀(a:ahb) (b:X),a.Pairwise (· < ·)->(∀x∈a,x<b)->a.length<=b
 |[],_,_,_=>c8 _
 |x::a,b,i,d=>by
  obtain⟨c,j⟩:=mP.1 i;have p:=d x ac;have:=IA (a.map λf=>f-(x+1)) (b-(x+1)) (by
   rw[oM];refine tD ?_ j;intro h m k o n;have:=c h k;omega) (by
   intro f l;obtain⟨g,e,rfl⟩:=eP.1 l;have:=c g e;have:=d g (by simp[e]);omega)
  rw[e8] at this;rw[jc];omega
def IJ (a:Z):Z:=if a=0 then 0 else if a=1 then 5 else if a=2 then 9 else if a=3 then 12 else if a=4 then 14 else 15
def WS (s:a<=6) {E:bm cV} (o:E.Pairwise hm) (c:lh a a E) (d:∀b∈E,b.2.1<=b.1):E.length<=21:=by
 have m:=IA (E.map λb=>(IJ b.2.1+b.1).toNat) 21 (by
  rw[oM];refine tD ?_ o;intro e f g h n;have k:=c e g;have q:=c f h;have l:=d e g;have r:=d f h;unfold hm at n;unfold IJ;split<;>split<;>(try split)<;>(try split)<;>(try split)<;>(try split)<;>(try split)<;>(try split)<;>(try split)<;>(try split)<;>omega) (by
  intro t p;obtain⟨j,i,rfl⟩:=eP.1 p;have k:=c j i;have l:=d j i;unfold IJ;split
  ·omega
  split
  ·omega
  split
  ·omega
  split
  ·omega
  split<;>omega)
 rwa[e8] at m
structure mN (n:X) (st p9 x2:ahc):Prop where
 xC:n<=7
 el:(gZ (cX st p9 x2 n)).length<=21
def mN.XX (c:a<=6) (b:gI a a f d g=0):mN a f d g:=
 ⟨aa,dh (WS c (xv (p0 (jM.1 b).1 a (bd _))) (xu (q6 (jM.1 b).1)) WQ) ab⟩
def mN.XW (c:a<=5) (b:gI a a f d g=0):mN a f d g:=mN.XX (dh c ab) b
def RQ (j:mN a f d g) (b:jq a a f d g) (l:gI a a f d g=0):Cs (((a:Z),(a:Z),f,d,g,()),())=Y (rp a a (gZ (cX f d g a)),0,()):=by
 have h:=(jM.1 l).1;have m:=p0 h a (cc _);have n:=q6 h;have s:=j.el;have t:=j.xC;have r:(cX f d g a).length<=10000:=(by rw[zG h a (cc _)];have:=h.sQ a (cc _);have:=b.hi;omega);unfold Cs;refine ah b.check ?_;dsimp only;rw[l,gb,aH bn];refine ah (Hm h b.hc b.hi) ?_;dsimp only;generalize cX f d g a=E at*;refine bP.1 ?_;refine ae.aK (P:=λo=>o=(((0:Z),((0:Z),([],([],([],()))))),gZ E,())) ?_ ?_
 ·refine ae.steps E.length (λc p=>p=((c:Z),((0:Z),((0:Z),([],([],([],()))))),gZ (E.take c),E,())) rfl ?_ ?_
  ·rintro c _ k rfl;dsimp only;rw[aY (aH (show(c:Z)<ak E by simp only[bg];omega)),lE k,bk aa];have q:(gZ (E.take c)).length<=10000:=cA (ahF _ _) (by rw[aho];omega);unfold gZ at*;rw[QU k];by_cases i:sY E[c]=bp
   ·have e:=i;unfold sY at e;rw[aY e,au i,eB (by simp only[jc,oK];omega)];exact bu.2 bn
   have e:=i;unfold sY at e;rw[a1 (by simpa using e),aw i,oJ];exact bu.2 bn
  rintro _ rfl;dsimp only;rw[a1 (aF (show¬((E.length:Z)<ak E) by simp only[bg];omega)),ck (cc _)];exact bu.2 bn
 rintro _ rfl;dsimp only;exact ae.bs (Te b.hr b.hc aa (xv m) (xu n)) (bu.2 bn)
def Jh (k:mN a f d g) (e:jq a a f d g) (j:gI a a f d g=0):sw (((a:Z),(a:Z),f,d,g,()),())=Y (rp a a (gZ (cX f d g a)),0,()):=by
 have i:=(jM.1 j).1;have m:=p0 i a (cc _);have n:=q6 i;have s:=k.el;have t:=k.xC;have r:(cX f d g a).length<=10000:=(by rw[zG i a (cc _)];have:=i.sQ a (cc _);have:=e.hi;omega);unfold sw;refine ah e.xO ?_;dsimp only;rw[j,gb,aH bn];refine ah (PG e j) ?_;dsimp only;generalize cX f d g a=E at*;refine bP.1 ?_;refine ae.aK (P:=λo=>o=(((0:Z),((0:Z),([],([],([],()))))),gZ E,())) ?_ ?_
 ·refine ae.steps E.length (λb p=>p=((b:Z),((0:Z),((0:Z),([],([],([],()))))),gZ (E.take b),())) rfl ?_ ?_
  ·rintro b _ l rfl;dsimp only;rw[aY (aH (show(b:Z)<ak E by simp only[bg];omega)),eY l,bk aa];have q:(gZ (E.take b)).length<=10000:=cA (ahF _ _) (by rw[aho];omega);unfold gZ at*;rw[QU l];by_cases h:sY E[b]=bp
   ·have c:=h;unfold sY at c;rw[aC,aC,aY c,au h,aC,eB (by simp only[jc,oK];omega)];exact bu.2 bn
   have c:=h;unfold sY at c;rw[aC,aC,a1 (by simpa using c),aw h,oJ];exact bu.2 bn
  rintro _ rfl;dsimp only;rw[a1 (aF (show¬((E.length:Z)<ak E) by simp only[bg];omega)),ck (cc _)];exact bu.2 bn
 rintro _ rfl;dsimp only;exact ae.bs (aaH e.hr e.hc aa (xv m) (xu n)) (bu.2 bn)
def j6 (b:ew) (a:ahc):eu:=(bH a.length).map λ(c:X)=>(bH a.length).map λ(d:X)=>br (a.getD d 0∈b.getD (a.getD c 0).toNat [])
theorem xe (b:ew) (a:ahc):(j6 b a).length=a.length:=by simp[j6]
theorem FY (b:a<d.length) (e:c<d.length):hz (j6 i d) a c=br (d.getD c 0∈i.getD (d.getD a 0).toNat []):=by grind [ahX,hz,j6]
theorem adf (g:0<=b/\b<i.length) (h:0<=e/\e<i.length):∃a,al (oA i) b=Y a/\al a e=Y (br (e∈i.getD b.toNat [])):=by
 have d:b.toNat<i.length:=aa;have f:e.toNat<i.length:=aa;refine⟨(bH i.length).map λ(c:X)=>br ((c:Z)∈i[b.toNat]),?_,?_⟩
 ·simp_all [au,QT,al]
 unfold al;grind
theorem RN (B:fj i) (w:∀d∈i,d.length<4611686018427387904) (G:i.length<=200) (s:∀m∈d,0<=m/\m<(i.length:Z)) (D:d.Nodup) (R:d.length<=400):C1 ((i,()),d,())=Y ((jP (j6 i d),()),0,()):=by
 classical
 rw[<-bP];unfold C1;have C:iC i=0:=(by simp_all [aw,au,iC]);have ao:br (∀m∈d,0<=m/\m<(i.length:Z))=bp:=ahg s;have A:br (¬d.Nodup)=bq:=ahN (λb=>b D);simp only[AB i w,C,RX d _ aa,ao,R5 d aa,A,KG w G (λg K=>(B.asc g K).2),Mm d.length aa,aC,ale,bO,gT];simp only[bX];refine cz (P:=λu=>u.2.1=j6 i d) ?_ ?_
 ·refine ae.for (i0:=0) d.length (λa v=>v.2.1=(bH d.length).map λ(g:X)=>if g<a then(j6 i d).getD g [] else bJ d.length bq) rfl ?_ (c8 _) ?_ ?_
  ·apply hQ;grind
  ·rintro a ⟨x,o,_⟩ _ j e;simp only at e;simp only[bZ,bX];refine⟨λ_=>?_,λp=>by grind⟩;refine cz (P:=λu=>u.2.1=(bH d.length).map λ(g:X)=>if g<a+1 then(j6 i d).getD g [] else bJ d.length bq) ?_ (by grind [iU,bu]);refine ae.for (i0:=0) d.length (λc v=>v.2.1=o.set a ((bH d.length).map λ(h:X)=>if h<c then hz (j6 i d) a h else bq)) rfl ?_ (c8 _) ?_ ?_
   ·show o=_;apply hQ;intro f;rw[vQ];by_cases l:a=f
    ·subst l;rw[au bn,e];simp[j,alf]
    grind
   ·rintro c ⟨O,n,_⟩ _ r k;simp only at k;have L:=s _ (cO j);have M:=s _ (cO r);obtain⟨N,H,I⟩:=adf L M;have S:n.length=d.length:=(by grind);have q:a<n.length:=aa;have J:n[a]=(bH d.length).map λ(h:X)=>if h<c then hz (j6 i d) a h else bq:=by
     grind
    have E:al d (a:Z)=Y d[a]:=gQ (bc j);have F:al d (c:Z)=Y d[c]:=gQ (bc r);simp only[bZ,bX,ae.DM,E,F,H,I,bu,ae.Bu,ae.In,fA];refine⟨λ_=>⟨⟨aa,q⟩,q,⟨aa,by grind⟩,q,by grind,iU aa,?_⟩,λp=>by grind⟩;rw[J,k,List.set_set];congr 1;apply hQ;intro f;rw[vQ,jn,jn];rcases cS f d.length with b|b
    ·rw[A7 b];simp only[jo,e8,lR];by_cases l:c=f
     ·subst l;have y:d.getD c 0=d[c]:=(by grind);have z:d.getD a 0=d[a]:=(by grind);rw[au bn,au b,au aa,FY j r,y,z]
     grind
    grind
   rintro⟨O,n,_⟩ k;simp only at k;simp only[bZ,bu];refine⟨λp=>by grind,λ_=>?_⟩;rw[k,e];apply hQ;intro f;rw[vQ,jn,jn];rcases cS f d.length with b|b
   ·rw[A7 b];simp only[jo,e8,lR];by_cases l:a=f
    ·subst l;rw[au bn,au b,au aa];congr 1;have:(j6 i d).getD a []=(bH d.length).map λ(h:X)=>hz (j6 i d) a h:=by
      have Q:(j6 i d).getD a []=(bH d.length).map λ(c:X)=>br (d.getD c 0∈i.getD (d.getD a 0).toNat []):=(by simp[j6,ahX,j]);grind [FY,ahv]
     simp_all
    grind
   grind
  rintro⟨x,o,_⟩ e;simp only at e;simp only[bZ,bu];refine⟨λp=>by grind,λ_=>?_⟩;rw[e];apply hQ;intro f;rw[jn];rcases cS f d.length with b|b
  ·simp_all [au,bc,xe,jo,A7,ahX]
  grind [aiT,xe]
 rintro⟨x,o,_⟩ e;simp only at e;subst e;rw[Ks]
 ·grind [bu]
 ·intro N t;unfold j6 at t;simp only[eP] at t;obtain⟨a,_,rfl⟩:=t;simp[j6]
 grind [xe]
section
inductive iN (A:X->X->Prop) (P:X->Prop):X->X->Prop
 |one {i j:X}:A i j->iN A P i j
 |step {i m j:X}:A i m->P m->iN A P m j->iN A P i j
section
variable {A:X->X->Prop} {P:X->Prop}
def iN.trans (b:iN A P c a) (e:P a) (d:iN A P a j):iN A P c j:=by
 induction b with
 |one b=>exact .step b e d
 |step b f _ g=>exact .step b f (g e d)
def iN.symm (f:∀d e,A d e->A e d) (b:iN A P a c):iN A P c a:=by
 induction b with
 |one b=>exact .one (f _ _ b)
 |step b g _ h=>exact h.trans g (.one (f _ _ b))
theorem iN.mono (f:∀d,P d->q d) (b:iN A P a c):iN A q a c:=by
 induction b with
 |one b=>exact .one b
 |step b e _ g=>exact .step b (f _ e) g
def iN.insert_iff:iN A (λf=>P f\/f=j) a c↔iN A P a c\/(iN A P a j/\iN A P j c):=by
 constructor
 ·intro b
  induction b with
  |one b=>exact .inl (.one b)
  |@step a m c b g _ d=>
   rcases g with g|rfl
   ·rcases d with d|⟨l,h⟩
    ·exact .inl (.step b g d)
    exact .inr ⟨.step b g l,h⟩
   rcases d with d|⟨_,h⟩
   ·exact .inr ⟨.one b,d⟩
   exact .inr ⟨.one b,h⟩
 rintro(b|⟨i,k⟩)
 ·exact b.mono λf e=>.inl e
 exact(i.mono λf e=>.inl e).trans (.inr bn) (k.mono λf e=>.inl e)
def iN.none:iN A (λ_=>b5) a c↔A a c:=by
 constructor
 ·intro b;cases b with
  |one b=>exact b
  |step _ b _=>exact b.elim
 exact .one
theorem Rm:qM A j a c↔iN A (λf=>f<j) a c:=by
 constructor
 ·intro b
  induction b with
  |one b=>exact .one b
  |step b d _ e=>exact .step b d e
 intro b
 induction b with
 |one b=>exact .one b
 |step b d _ e=>exact .step b d e
end
end
section
theorem acN:∀{b a:ahc},b.Pairwise (· < ·)->a.Pairwise (· < ·)->(∀c,c∈b↔c∈a)->b=a:=by
 intro b
 induction b with
 |nil=>
  intro a _ _ d;cases a with
  |nil=>rfl
  |cons e a=>grind [alg]
 |cons c b h=>
  intro a f g d;cases a with
  |nil=>grind
  |cons e a=>
   grind [alg,ai7]
structure yb (mV:ew) (S:X->Prop) (T:eu) (gone:ag8):Prop where
 E3:T.length=mV.length
 rows:∀v,(h:v<T.length)->T[v].length=mV.length
 uN:gone.length=mV.length
 M0:∀v,(h:v<gone.length)->(gone[v]=bp↔S v)
 JY:∀u w,(aeu:u<T.length)->(hw:w<T[u].length)->¬S u->¬S w->(T[u][w]=bp↔u≠w/\iN (j0 mV) S u w)
def lC (b:eu) (c:ag8) (e d:X):ahc:=((bH d).filter λa=>hz b e a&&!c.getD a bq).map λ(a:X)=>(a:Z)
theorem Ip (a:yb i q o r) {v w:X} (k:v<i.length) (f:¬q v):(w:Z)∈lC o r v i.length↔w<i.length/\¬q w/\v≠w/\iN (j0 i) q v w:=by
 unfold lC;simp only[eP,hx,h9,cC,tv];have l:∀w,w<i.length->((hz o v w=bp/\r.getD w bq=bq)↔¬q w/\v≠w/\iN (j0 i) q v w):=by
  intro w g;have d:v<o.length:=(by rw[a.E3];exact k);have e:w<o[v].length:=(by rw[a.rows v d];exact g);have h:w<r.length:=(by rw[a.uN];exact g);have j:r.getD w bq=r[w]:=(by grind);rw[wj d e,j,Bool.eq_false_iff,ne_eq,a.M0 w h];constructor
  ·rintro⟨b,c⟩;exact⟨c,(a.JY v w d e f c).1 b⟩
  rintro⟨b,c⟩;exact⟨(a.JY v w d e f b).2 c,b⟩
 grind
theorem IB (b:eu) (c:ag8) (d a:X):(lC b c d a).length<=a:=by grind [cA,ahF,cj,lC]
theorem IC (e:b∈lC o r c a):∃d:X,b=(d:Z)/\d<a:=by grind [lC]
theorem Ky (l:o.length=c) (w:∀a,(e:a<o.length)->o[a].length=c) (n:r.length=c) (u:c<=4294967296) (x:a<c):zu (Y (o,r,()),(a:Z),())=Y (lC o r a c,()):=by
 rw[<-bP];unfold zu;have t:hD=4294967296:=rfl;simp only[bX,bu];refine cz (P:=λd=>d.1=lC o r a c) ?_ (by grind);refine ae.for (i0:=0) c (λi k=>k.1=lC o r a i) rfl rfl (c8 _) ?_ ?_
 ·rintro b ⟨j,_⟩ _ y f;simp only at f;have v:=IB o r a b;simp only[aC];rw[bZ];refine⟨λ_=>?_,λm=>by grind⟩;rw[bX,bX];have g:a<o.length:=aa;have h:b<o[a].length:=(by grind);have p:al o (a:Z)=Y o[a]:=gQ (bc g);have q:al o[a] (b:Z)=Y o[a][b]:=gQ (bc h);have s:al r (b:Z)=Y (r.getD b bq):=gQ (by grind);refine cz (P:=λd=>d=((hz o a b&&!r.getD b bq),j,())) ?_ ?_
  ·simp_all [bX,bZ,bu,wj]
  rintro _ rfl;simp only[bZ,bX,bu,aiX];refine⟨λe=>⟨by grind,iU aa,?_⟩,λe=>⟨iU aa,?_⟩⟩
  ·simp_all [au,nY,akj,iM,pz,iy,lC]
  simp_all [iM,pz,iy,nY,akj,aw,lC]
 simp_all [aC,bZ,bu]
theorem S0 (e:a<o.length) (f:c<o[a].length) (b d:X):hz (o.set a (o[a].set c bp)) b d=(hz o b d||(b==a&&d==c)):=by grind [hz]
theorem Oi (a:eu) (b:ag8) (d c:X):(lC a b d c).Pairwise (· < ·):=JK _ _
theorem RD (K:o.length=a) (O:∀c,(g:c<o.length)->o[c].length=a) (ap:r.length=a) (av:a<=4294967296) (a0:c<a):ae (zt ((o,r,()),(c:Z),())) (λq=>q.1.2.1=r.set c bp/\q.1.1.length=a/\(∀c,(g:c<q.1.1.length)->q.1.1[c].length=a)/\∀d b,d<a->b<a->(hz q.1.1 d b=bp↔hz o d b=bp\/((d:Z)∈lC o r c a/\(b:Z)∈lC o r c a/\d≠b))):=by
 unfold zt;simp only[Ky K O ap av a0,aC];have am:=IB o r c a;have E:∀I∈lC o r c a,∃b:X,I=(b:Z)/\b<a:=λI Q=>IC Q;have an:=Oi o r c a;generalize lC o r c a=f at am E an;have a3:∀l m:X,(g:l<f.length)->(ad:m<f.length)->f[l]=f[m]->l=m:=λl m g ad J=>by
  rcases qE l m with C|C|C
  ·grind [ahh]
  ·exact C
  grind [ahh]
 simp only[bX];refine cz (P:=λe:dM×bt=>e.1.2.1=r/\e.1.1.length=a/\(∀c,(g:c<e.1.1.length)->e.1.1[c].length=a)/\∀d b,d<a->b<a->(hz e.1.1 d b=bp↔hz o d b=bp\/((d:Z)∈f/\(b:Z)∈f/\d≠b))) ?_ ?_
 ·refine ae.for (i0:=0) f.length (λh e=>e.1.2.1=r/\e.1.1.length=a/\(∀c,(g:c<e.1.1.length)->e.1.1[c].length=a)/\∀d b,d<a->b<a->(hz e.1.1 d b=bp↔hz o d b=bp\/((d:Z)∈f.take h/\(b:Z)∈f/\d≠b))) rfl ⟨bn,K,O,λd b _ _=>by simp⟩ (c8 _) ?_ ?_
  ·rintro h ⟨⟨R,S,_⟩,_⟩ _ H ⟨s,t,u,D⟩;simp only at s t u D;simp only[bZ,bX];refine⟨λ_=>?_,λM=>by grind⟩;refine cz (P:=λe:dM×bt=>e.1.2.1=r/\e.1.1.length=a/\(∀c,(g:c<e.1.1.length)->e.1.1[c].length=a)/\∀d b,d<a->b<a->(hz e.1.1 d b=bp↔hz o d b=bp\/((d:Z)∈f.take (h+1)/\(b:Z)∈f/\d≠b))) ?_ (by grind [iU,bu]);obtain⟨j,L,bl⟩:=E _ (cO H);refine ae.for (i0:=0) f.length (λk e=>e.1.2.1=r/\e.1.1.length=a/\(∀c,(g:c<e.1.1.length)->e.1.1[c].length=a)/\∀d b,d<a->b<a->(hz e.1.1 d b=bp↔hz o d b=bp\/((d:Z)∈f.take h/\(b:Z)∈f/\d≠b)\/(d=j/\(b:Z)∈f.take k/\d≠b))) rfl ⟨s,t,u,λd b x y=>by grind⟩ (c8 _) ?_ ?_
   ·rintro k ⟨⟨A,T,_⟩,_⟩ _ w ⟨i,n,p,z⟩;simp only at i n p z;obtain⟨B,F,bs⟩:=E _ (cO w);have U:al f (h:Z)=Y (j:Z):=gQ (by rw[bc H,L]);have V:al f (k:Z)=Y (B:Z):=gQ (by rw[bc w,F]);have v:j<A.length:=aa;have G:B<A[j].length:=(by grind);simp only[bZ,bX,U,V,bu,ae.DM,ae.Bu,ae.In,fA];refine⟨λ_=>⟨λN=>⟨⟨aa,v⟩,v,⟨aa,G⟩,v,G,iU aa,i,by grind,λI Q=>?_,λd b x y=>?_⟩,λbx=>⟨iU aa,i,n,p,λd b x y=>?_⟩⟩,λM=>by grind⟩
    ·rw[amv];grind
    ·have N:h≠k:=(by grind);have a4:j≠B:=λJ=>N (a3 h k H w (by rw[L,F,J]));rw[S0 v G,jl,z d b x y,<-tk w,F,h8,gj];grind
    grind [tk,ahk]
   rintro⟨⟨A,T,_⟩,_⟩ ⟨i,n,p,z⟩;simp only at i n p z;simp only[bZ,bu];refine⟨λM=>by grind,λ_=>⟨i,n,p,λd b x y=>?_⟩⟩;grind [cB,tk,ahk]
  rintro⟨⟨R,S,_⟩,_⟩ ⟨s,t,u,D⟩;simp only at s t u D;simp only[bZ,bu];grind
 grind [bX,ae.DM,ae.Bu,bu,ae.In,ahR]
theorem RC (F:fj i) (G:i.length<=4294967296) (b:yb i q o r) (k:a<i.length) (s:¬q a):ae (zt ((o,r,()),(a:Z),())) (λB=>yb i (λg=>q g\/g=a) B.1.1 B.1.2.1):=by
 refine(RD b.E3 b.rows b.uN G k).mono ?_;rintro⟨⟨M,h,_⟩,_⟩ ⟨l,m,n,p⟩;simp only at l m n p|-;subst l;have v:=j0.symm F;refine⟨m,n,by rw[ajl];exact b.uN,λg N=>?_,λc e H I t u=>?_⟩
 ·rw[amv];by_cases J:a=g
  ·grind
  rw[aw J,b.M0];grind
 have w:c<i.length:=aa;have y:e<i.length:=(by grind);have:=p c e w y;rw[wj H I] at this;have j:c<o.length:=(by rw[b.E3];omega);have x:e<o[c].length:=(by rw[b.rows c j];omega);have z:¬q c:=λd=>t (.inl d);have A:¬q e:=λd=>u (.inl d);have K:a≠c:=λd=>t (.inr d.symm);have L:a≠e:=λd=>u (.inr d.symm);rw[this,wj j x,b.JY c e j x z A,Ip b k s,Ip b k s,iN.insert_iff];constructor
 ·rintro(⟨h,f⟩|⟨⟨_,_,_,f⟩,⟨_,_,_,D⟩,E⟩)
  ·grind
  exact⟨E,.inr ⟨f.symm v,D⟩⟩
 rintro⟨h,f|⟨f,C⟩⟩
 ·grind
 exact .inr ⟨⟨w,z,K,f.symm v⟩,⟨y,A,L,C⟩,h⟩
theorem Ry (e:fj i) (k:∀n∈i,n.length<4611686018427387904) (l:i.length<=200):ae (C2 ((i,()),())) (λg=>yb i (λ_=>b5) g.1.1 g.1.2.1):=by
 unfold C2;have o:hD=4294967296:=rfl;simp only[KG k l (λc m=>(e.asc c m).2),aC,bX,ae.Im,bu,fA];refine⟨⟨aa,aa,aa⟩,JU i,λc j=>?_,ac,λc j=>by simp,λb d p q _ _=>?_⟩
 ·simp[oA]
 rw[iN.none];have f:b<i.length:=(by grind [JU]);have r:d<i.length:=(by grind [oA]);have h:(oA i)[b][d]=br ((d:Z)∈i[b]):=(by grind [oA,ahX]);rw[h,ahD];constructor
 ·exactλa=>⟨j0.ne e ⟨f,a⟩,f,a⟩
 exactλa=>a.2.2
open Classical in
theorem abP (j:fj i) (k:∀s∈i,s.length<4611686018427387904) (p:i.length<=200):zv ((i,()),())=Y ((bH i.length).map (g2 i),0,()):=by
 rw[<-bP];unfold zv;have A:hD=4294967296:=rfl;have n:iC i=0:=(by simp_all [aw,au,iC]);simp only[AB i k,n,aC,ale,bO];simp only[bX];refine(Ry j k p).mono ?_;rintro⟨⟨f,g,_⟩,_⟩ c;simp only at c;simp only[bX];refine cz (P:=λt=>t.1=(bH i.length).map (g2 i)) ?_ (by grind [bu]);refine ae.for (i0:=0) i.length (λa h=>h.2.1=(bH a).map (g2 i)/\yb i (λl=>l<a) h.1.1 h.1.2.1) rfl ⟨bn,?_⟩ (c8 _) ?_ ?_
 ·grind
 ·rintro a ⟨⟨f,g,_⟩,C,_⟩ _ e ⟨q,c⟩;simp only at q c;have B:=IB f g a i.length;have y:[(a:Z)]++lC f g a i.length=g2 i a:=by
   have o:=λd=>Ip c (v:=a) (w:=d) e (aje a);refine acN ?_ (LS i a) ?_
   ·rw[yp,mP];grind [IC,Oi]
   intro l;constructor
   ·intro b;rw[yp,fR] at b;rcases b with rfl|b
    ·exact uY.2 ⟨e,.inl bn⟩
    obtain⟨d,rfl,_⟩:=IC b;have:=(o d).1 b;exact uY.2 ⟨this.1,.inr ⟨aa,Rm.2 this.2.2.2⟩⟩
   intro b;rw[yp,fR];have r:=b;unfold g2 ud at b;simp only[eP] at b;obtain⟨d,_,rfl⟩:=b;obtain⟨u,m|⟨m,x⟩⟩:=uY.1 r
   ·omega
   grind [Rm]
  rw[bZ];refine⟨λ_=>?_,λz=>by grind⟩;simp only[Ky c.E3 c.rows c.uN (aa:i.length<=4294967296) e,aC,bX,aiX];refine⟨by grind,by grind,?_⟩;refine(RC j aa c e (aje a)).mono ?_;grind [ahG,iU,bu]
 simp_all [bZ,bu]
end
def SN (c:d.Pairwise (· < ·)) (e:∀g∈d,0<=g):∀a,(b:a<d.length)->(a:Z)<=d[a]:=by
 intro a
 induction a with
 |zero=>intro b;exact e _ (cO b)
 |succ a f=>
  intro b;have h:=f aa;have i:=An.1 c a b;omega
def qs.length {a:ahc} {c:X} (b:qs a c):a.length<=c:=by
 rcases n0 a.length with d|d
 ·omega
 have g:=SN b.1 (λf e=>(b.2 f e).1) (a.length-1) aa;have h:=(b.2 _ (cO (aa:a.length-1<a.length))).2;omega
def fj.rows (b:fj i):∀a∈i,a.length<=i.length:=by intro a c;obtain⟨e,d,rfl⟩:=ho.1 c;exact(b.asc e d).length
def fj.hc (b:fj i) (d:i.length<=200):∀a∈i,a.length<4611686018427387904:=λa c=>by have:=b.rows a c;omega
def qR:iC i=0↔i.length<=200/\fj i:=by
 unfold iC;by_cases a:200<i.length
 ·rw[au a];constructor
  ·intro a;omega
  intro a;omega
 rw[aw a];by_cases b:fj i
 ·rw[au b];exact⟨λ_=>⟨aa,b⟩,λ_=>rfl⟩
 rw[aw b];exact⟨λa=>by omega,λa=>absurd a.2 b⟩
def Pp (a:ew) (b:X):Z:=((g2 a b)[1]?).getD (-1)
end Go.jm
end
