/- Reading and writing of items are inverse: plain Lean. | What lies there while a call makes a list of texts. -/
import Derived.Test.YtcgpjceopnfahaaGreatWorldChecksK18
import Derived.Test.YtcgpjceopnfahaaGreatWorldChecksK11
set_option linter.unusedSimpArgs false
set_option linter.unusedVariables false
set_option maxHeartbeats 4000000
set_option maxRecDepth 100000
namespace Go.Proofs.YtcgpjceopnfahaaGreat
open Go.RowKit
mutual
def encP:Pit→List UInt8
 | .txt t=>textB t
 | .lst ks=>headB 192 (encPL ks).length++encPL ks
def encPL:List Pit→List UInt8
 | []=>[]
 | k::ks=>encP k++encPL ks
end
theorem encP_er:∀ (it:Itm),encI it=encP (erI it):=by
 intro it
 induction it using Itm.rec (motive_2:=fun ks=>encL ks=encPL (ks.map erI)) with
 | mk l tv t kv ks ih =>
  rw [erI_mk,encI]
  cases l with
  | false=>simp [encP]
  | true=>simp [encP,ih]
 | nil=>simp [encL,encPL]
 | cons k ks h1 h2=>rw [List.map_cons,encL,encPL,h1,h2]
theorem textB_ne (t:List UInt8):textB t≠[]:=by
 unfold textB
 split
 ·rename_i h;intro e;rw [e] at h;simp at h
 ·unfold headB;split<;>simp
theorem headB_ne (base n:Nat):headB base n≠[]:=by unfold headB;split <;> simp
theorem encP_ne (p:Pit):encP p≠[]:=by
 cases p with
 | txt t=>rw [encP];exact textB_ne t
 | lst ks=>rw [encP];simp [headB_ne]
theorem numB_back (l:List UInt8)(hl:l.length≤8)(h0:l.head?≠some 0):numB (numL l)=l:=by
 have h:=num_same l
 rw [last_small l (by omega)] at h
 have hok:okNum l=true:=by unfold okNum;simp [h0];omega
 rw [hok] at h
 simpa using h
theorem hdr_back {c:UInt8}{base:Nat}{r r':List UInt8}{k:Nat}(hb:base≤192)(h1:base≤c.toNat)(h:hdr c.toNat base r=some (k,r')):c::r=headB base k++r':=by
 unfold hdr at h
 split at h
 ·simp only [Option.some.injEq,Prod.mk.injEq] at h
  obtain ⟨rfl,rfl⟩:=h
  unfold headB
  rw [if_pos (by omega),show base+(c.toNat - base)=c.toNat from by omega]
  simp
 ·rename_i hs
  split at h
  ·simp at h
  ·rename_i hlen
   split at h
   ·simp at h
   ·rename_i hz
    split at h
    ·simp at h
    ·rename_i h48
     simp only [Option.some.injEq,Prod.mk.injEq] at h
     obtain ⟨rfl,rfl⟩:=h
     have hl:(r.take (c.toNat - base - 48+1)).length=c.toNat - base - 48+1:=by rw [List.length_take];omega
     have hnb:=numB_back (r.take (c.toNat - base - 48+1)) (by rw [hl];omega) (fun e=>hz (.inl e))
     unfold headB
     rw [if_neg h48,hnb,hl,show base+48+(c.toNat - base - 48+1 - 1)=c.toNat from by omega,List.cons_append,List.take_append_drop]
     simp
theorem parL_back {f:List UInt8→Option (Pit × List UInt8)}(hf:∀ b p r,f b=some (p,r)→b=encP p++r):∀ (m:Nat) (b:List UInt8) (ps:List Pit),parL f m b=some ps→b=encPL ps
 | m,[],ps,h=>by rw [parL_nil] at h;simp at h;subst h;simp [encPL]
 | 0,_::_,ps,h=>by simp [parL] at h
 | m+1,x::b,ps,h=>by
  simp only [parL] at h
  cases hx:f (x::b) with
  | none=>rw [hx] at h;simp at h
  | some pr =>
   obtain ⟨p,r⟩:=pr
   rw [hx] at h
   dsimp only at h
   cases hr:parL f m r with
   | none=>rw [hr] at h;simp at h
   | some qs =>
    rw [hr] at h
    simp only [Option.some.injEq] at h
    subst h
    rw [hf _ _ _ hx,parL_back hf m r qs hr,encPL]
theorem par_back:∀ (n:Nat)(b:List UInt8)(p:Pit)(r:List UInt8),par n b=some (p,r)→b=encP p++r
 | 0,[],p,r,h=>by simp [par] at h
 | n+1,[],p,r,h=>by simp [par] at h
 | 0,_::_,p,r,h=>by simp [par] at h
 | n+1,c::b,p,r,h=>by
  unfold par at h
  split at h
  ·rename_i hc
   simp only [Option.some.injEq,Prod.mk.injEq] at h
   obtain ⟨rfl,rfl⟩:=h
   rw [encP,textB,if_pos (by simp;omega)]
   rfl
  ·rename_i h128
   split at h
   ·split at h
    ·simp at h
    ·rename_i k r' hh
     split at h
     ·simp at h
     ·rename_i hk
      simp only [Option.some.injEq,Prod.mk.injEq] at h
      obtain ⟨rfl,rfl⟩:=h
      have hkl:k≤r'.length:=by have:¬ r'.length<k:=fun h=>hk (.inl h);omega
      have hl:(r'.take k).length=k:=by rw [List.length_take];omega
      rw [hdr_back (by omega) (by omega) hh,encP,textB,hl,if_neg,List.append_assoc,List.take_append_drop]
      rintro ⟨e1,e2⟩
      apply hk
      right
      subst e1
      cases r' with
      | nil=>simp at hkl
      | cons y t=>unfold own1;simp at e2 ⊢;omega
   ·split at h
    ·simp at h
    ·rename_i k r' hh
     split at h
     ·simp at h
     ·rename_i hk
      split at h
      ·simp at h
      ·rename_i ks hks
       simp only [Option.some.injEq,Prod.mk.injEq] at h
       obtain ⟨rfl,rfl⟩:=h
       have hl:(r'.take k).length=k:=by rw [List.length_take];omega
       have e:=parL_back (par_back n) k _ ks hks
       rw [hdr_back (by omega) (by omega) hh,encP,←e,hl,List.append_assoc,List.take_append_drop]
theorem head_read (base k:Nat)(hb:base=128∨base=192)(hk:k<18446744073709551616):∃ (c:UInt8) (rest:List UInt8),headB base k=c::rest∧base≤c.toNat∧c.toNat<base+64∧∀ x,hdr c.toNat base (rest++x)=some (k,x):=by
 by_cases h48:k<48
 ·refine ⟨UInt8.ofNat (base+k),[],by unfold headB;rw [if_pos h48],?_⟩
  have e:(UInt8.ofNat (base+k)).toNat=base+k:=by rw [UInt8.toNat_ofNat',Nat.mod_eq_of_lt (by omega)]
  rw [e]
  refine ⟨by omega,by omega,fun x=>?_⟩
  unfold hdr
  rw [if_pos (by omega),show base+k - base=k from by omega];rfl
 ·have h8:=numB_8 k hk
  have h1:=numB_pos k (by omega) (by unfold W256;omega)
  have hn:=numB_num k (by unfold W256;omega)
  have hz:(numB k).head?≠some 0:=bare_head (wb k)
  refine ⟨UInt8.ofNat (base+48+((numB k).length - 1)),numB k,by unfold headB;rw [if_neg h48],?_⟩
  have e:(UInt8.ofNat (base+48+((numB k).length - 1))).toNat=base+48+((numB k).length - 1):=by rw [UInt8.toNat_ofNat',Nat.mod_eq_of_lt (by omega)]
  rw [e]
  refine ⟨by omega,by omega,fun x=>?_⟩
  have e2:base+48+((numB k).length - 1) - base - 48+1=(numB k).length:=by omega
  unfold hdr
  rw [if_neg (by omega),e2,if_neg (by simp),List.take_left' rfl,List.drop_left' rfl,if_neg (by rintro (h|h);exact hz h;omega),hn,if_neg h48]
theorem parL_read {f:List UInt8→Option (Pit × List UInt8)}:∀ (ks:List Pit) (m:Nat),(encPL ks).length≤m→(∀ k∈ks,∀ r,f (encP k++r)=some (k,r))→parL f m (encPL ks)=some ks
 | [],m,_,_=>by rw [encPL,parL_nil]
 | k::ks,m,hm,hf=>by
  have hne:=encP_ne k
  have hpos:0<(encP k).length:=by
   rcases Nat.eq_zero_or_pos (encP k).length with h|h
   ·exact absurd (List.eq_nil_of_length_eq_zero h) hne
   ·exact h
  rw [encPL] at hm ⊢
  rw [List.length_append] at hm
  obtain ⟨m',rfl⟩:∃ m',m=m'+1:=⟨m - 1,by omega⟩
  rw [parL_some (by simp [hne]) (hf k List.mem_cons_self (encPL ks)),parL_read ks m' (by omega) (fun j hj=>hf j (List.mem_cons_of_mem _ hj))]
  rfl
theorem encPL_mem {k:Pit}:∀ {ks:List Pit},k∈ks→(encP k).length≤(encPL ks).length
 | x::ks,h=>by
  rw [encPL,List.length_append]
  rcases List.mem_cons.1 h with rfl|h
  ·omega
  ·have:=encPL_mem h;omega
theorem par_read:∀ (n:Nat)(p:Pit)(r:List UInt8),(encP p).length≤n→(encP p).length<18446744073709551616→par n (encP p++r)=some (p,r)
 | 0,p,r,h,_=>absurd (List.eq_nil_of_length_eq_zero (by omega)) (encP_ne p)
 | n+1,.txt t,r,h,h64=>by
  rw [encP] at h h64 ⊢
  unfold textB at h h64 ⊢
  by_cases h1:t.length=1∧(t[0]?.getD 0).toNat<128
  ·rw [if_pos h1]
   obtain ⟨x,rfl⟩:∃ x,t=[x]:=List.length_eq_one_iff.1 h1.1
   have hx:x.toNat<128:=by simpa using h1.2
   simp [par,hx]
  ·rw [if_neg h1] at h h64 ⊢
   rw [List.length_append] at h h64
   obtain ⟨c,rest,e,c1,c2,hr⟩:=head_read 128 t.length (.inl rfl) (by omega)
   rw [e,List.append_assoc,List.cons_append,par,if_neg (by omega),if_pos (by omega),hr (t++r)]
   dsimp only
   rw [if_neg,List.take_left' rfl,List.drop_left' rfl]
   rintro (h2|h2)
   ·rw [List.length_append] at h2;omega
   ·unfold own1 at h2
    simp only [Bool.and_eq_true,decide_eq_true_eq] at h2
    apply h1
    refine ⟨h2.1,?_⟩
    obtain ⟨x,rfl⟩:∃ x,t=[x]:=List.length_eq_one_iff.1 h2.1
    simpa using h2.2
 | n+1,.lst ks,r,h,h64=>by
  rw [encP] at h h64 ⊢
  rw [List.length_append] at h h64
  obtain ⟨c,rest,e,c1,c2,hr⟩:=head_read 192 (encPL ks).length (.inr rfl) (by omega)
  have hpos:1≤(headB 192 (encPL ks).length).length:=by rw [e];simp
  rw [e,List.append_assoc,List.cons_append,par,if_neg (by omega),if_neg (by omega),hr (encPL ks++r)]
  dsimp only
  rw [if_neg (by simp),List.take_left' rfl,List.drop_left' rfl,parL_read ks _ (Nat.le_refl _) (fun k hk r'=>par_read n k r' (by have:=encPL_mem hk;omega) (by have:=encPL_mem hk;omega))]
theorem encP_inj {p q:Pit}(hp:(encP p).length<18446744073709551616)(h:encP p=encP q):p=q:=by
 have h1:=par_read (encP p).length p [] (Nat.le_refl _) hp
 have h2:=par_read (encP q).length q [] (Nat.le_refl _) (by rw [←h];exact hp)
 rw [h,h2] at h1
 simpa using h1.symm
section
variable {w:World} {zs:List (TypeId × Nat × List Value)} {g9:Nat} {kv:Value} {ks:List Itm} {u:World}
theorem own_ltK {α:Type}{f:α→List Value}{size:Nat}{e:TypeId}{w:World}{B:Nat}{v:Value}{l:List α}(h:OwnOf f size e w B v l){k:Nat}(hk:v.ownBlock=some k):k<w.heap.size:=(World.ownsRow.lt h k hk).2
end
def TxB (B:Nat)(t:List UInt8):Ty:=fun v w=>Bytes w v t∧∀ k,v.ownBlock=some k→B≤k
theorem TxB.mono (B:Nat)(t:List UInt8):Mono (TxB B t):=fun _ _ _ ⟨h1,h2⟩ hb=>⟨RowOf.kept h1 hb,h2⟩
theorem TxB.lower {B B':Nat}{t:List UInt8}{v:Value}{w:World}(h:TxB B t v w)(hB:B'≤B):TxB B' t v w:=⟨h.1,fun k hk=>Nat.le_trans hB (h.2 k hk)⟩
theorem Bytes.onto {w u:World}{v:Value}{t:List UInt8}(h:Bytes w v t)(hu:∀ b,v.ownBlock=some b→b<w.heap.size→u.heap[b]?=w.heap[b]?):Bytes u v t:=by
 obtain ⟨h0,a,c,rfl,h1,h2,h3⟩:=h
 refine ⟨h0,a,c,rfl,h1,h2,?_⟩
 rcases h3 with h3|⟨b,off,s,rfl,hs,h3⟩
 ·exact .inl h3
 ·refine .inr ⟨b,off,s,rfl,hs,fun j x hx=>?_⟩
  have hc:=h3 j x hx
  rw [←hc]
  exact World.cell?_of_block (w:=w) (hu b rfl (World.block_lt_of_cell? w _ hc))
theorem add_block (p:Addr)(k:Nat):(p.add k).block=p.block:=by unfold Addr.add;split <;> rfl
theorem from_same {a:Option Addr}{n c:Nat}{l:List UInt8}{w:World}(h:Bytes w (.slice a n c) l)(lo:Nat)(h1:lo≤n)(x:Int)(hx:x=lo) :
  ∃ a' c',(∀ k w',(Instr.slice 25 (.slice a n c) (some (.int k x)) none none).run Tryz.prog w'=.ok (.slice a' (n - lo) c') w')∧Bytes w (.slice a' (n - lo) c') (l.drop lo)∧∀ k,(Value.slice a' (n - lo) c').ownBlock=some k→(Value.slice a n c).ownBlock=some k:=by
 subst hx
 obtain ⟨hn,hnc,hcm⟩:=h.fits
 obtain ⟨a',c',h2,h3⟩:=h.part elU8.hf elU8.hsz lo n h1 (Nat.le_refl _)
 obtain ⟨i,hi,_,hsi,_⟩:=elU8.info
 have hel:Tryz.prog.elem 25=5:=by unfold Program.elem;rw [elU8.ht]
 refine ⟨a',c',fun k w'=>?_,by subst hn;simpa using h3,fun k hk=>?_⟩
 ·rw [run_slice_l (P:=Tryz.prog) w' (t:=25) (a:=a) (len:=n) (cap:=c) (by rw [hel];exact elU8.ht) k (lo:Int) (by omega) (by omega)]
  rw [hel]
  simp [sizeOf,typeInfo,hi,hsi,←h2]
 ·unfold sliced at h2
  simp only [Value.slice.injEq] at h2
  rw [←h2.1] at hk
  cases a with
  | none=>simp [Value.ownBlock] at hk
  | some p =>
   by_cases hc:c=lo
   ·rw [if_pos hc] at hk;exact hk
   ·rw [if_neg hc] at hk
    simp only [Option.map_some,Value.ownBlock,add_block] at hk
    exact hk
theorem pnum_fr (N:Nat)(w:World) :
  Calls Tryz.prog 53 #[wv N] w fun e w'=>∃ v,e=.returned v∧TxB w.heap.size (numB N) v w'∧Below w.heap.size w w':=by
 have hb0:=boxW w N
 have hbel0:Below w.heap.size w (w.alloc (.cells (wcs N).toArray 24)):=(Below.refl _ _).alloc (Nat.le_refl _) _
 show Calls Tryz.prog 53 #[.agg (wcs N).toArray] w _
 go_enter Tryz.func53,Tryz.ntmps53
 go_wp2_with (first
  |(refine wpList_loadA rfl 24 (.tmp 1) rfl w.heap.size rfl aggWord hb0 (wcs_len _) ?_)
  |(go_at_call 66;refine (wbytes_any N _).mono ?_;rintro e w2 ⟨v,rfl,hv,b2⟩;obtain ⟨a,c,rfl,_⟩:=hv.form' 32 (wb_len N)))
 have hbel2:=hbel0.trans (b2.mono hbel0.size)
 have hr:Bytes w2 (.slice a 32 c) (wb N):=hv.row
 have hfr:∀ k,(Value.slice a 32 c).ownBlock=some k→w.heap.size≤k:=fun k hk=>by have:=hv.lt k hk;simp at this;omega
 have Hfr:=Lib.hid hfr
 clear hbel0 b2 hv hb0 hfr
 go_loop [4,5,10] (fun _ _ i=>∃ k:Nat,k≤32∧i=.int .i64 (k:Int)∧numB N=bare ((wb N).drop k)) (fun _ _ i=>32 - (intOf i).toNat)
 case atStart=>exact ⟨0,by omega,rfl,rfl⟩
 case round =>
  obtain ⟨k,hk,rfl,hbare⟩:=hrel
  by_cases hlt:k<32
  ·obtain ⟨b,off,rfl,hc⟩:=hr.at k (by rw [wb_len];exact hlt)
   rw [List.drop_eq_getElem_cons (by rw [wb_len];exact hlt)] at hbare
   obtain ⟨x,hx⟩:∃ x,x=(wb N)[k]'(by rw [wb_len];exact hlt):=⟨_,rfl⟩
   rw [←hx] at hc hbare
   have hki:(k:Int)<32:=by omega
   by_cases h0:x=0
   ·subst h0
    rw [bare_zero] at hbare
    have Hb:=Lib.hid hbare
    clear hbare hx
    go_wp2
    go_round
    case rel=>exact ⟨k+1,by omega,by go_num,Hb.out⟩
    case measure=>simp [intOf];omega
   ·have hxz:=u8_nz' x h0
    rw [bare_else x _ h0,hx,←List.drop_eq_getElem_cons] at hbare
    have Hb:=Lib.hid hbare
    obtain ⟨a',c',s1,r1,f1⟩:=from_same hr k (by omega) (k:Int) rfl
    obtain ⟨m,hm⟩:∃ m,m=32 - k:=⟨_,rfl⟩
    rw [←hm] at s1 r1 f1
    have hk':k≤32:=by omega
    have F1:=Lib.hid f1
    clear hbare hx hm f1
    go_wp2
    go_ret
    exact ⟨_,rfl,⟨by rw [Hb.out];exact r1,fun k hk=>Hfr.out k (F1.out k hk)⟩,hbel2⟩
  ·obtain rfl:k=32:=by omega
   rw [List.drop_eq_nil_of_le (by rw [wb_len];omega)] at hbare
   have hb:numB N=[]:=hbare
   have Hb:=Lib.hid hb
   clear hbare hb
   go_wp2
   go_ret
   exact ⟨_,rfl,⟨by rw [Hb.out];exact RowOf.nil _ _ _,fun k hk=>by simp [Value.ownBlock] at hk⟩,hbel2⟩
end Go.Proofs.YtcgpjceopnfahaaGreat
